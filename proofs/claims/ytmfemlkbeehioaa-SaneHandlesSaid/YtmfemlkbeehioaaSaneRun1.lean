import Derived.Test.YtmfemlkbeehioaaProg
import Derived.Test.YtmfemlkbeehioaaLib32
import Derived.Test.YtmfemlkbeehioaaSaneSh
import Derived.KernelRfl
open Go Go.Ab Go.Proofs
set_option linter.unusedVariables false
set_option maxRecDepth 20000
namespace Sx
abbrev yA : Ty := (.sl true (.cons (.int .i64) (.int .i64)))
abbrev yB : Ty := (.cons (.sl true (.cons (.int .i64) (.int .i64))) (.cons (.int .i64) (.cons (.int .i64) (.cons (.sl true (.cons (.int .i64) (.int .i64))) (.sl true (.cons (.int .i64) (.cons (.int .i64) (.int .i64))))))))
abbrev yC : Ty := (.cons (.sl true (.cons (.int .i64) (.int .i64))) (.cons (.int .i64) (.int .i64)))
abbrev yD : Ty := (.cons (.int .i64) (.int .i64))
abbrev yE : Ty := (.cons (.int .i64) (.cons (.int .i64) (.int .i64)))
abbrev yF : Ty := (.sl false (.int .u8))
noncomputable def ti2 : TI := ⟨.int .i64, 1, 8, false, some (.int .i64), false, [.int .i64 0]⟩
noncomputable def ti3 : TI := ⟨.int .i64, 1, 8, false, some (.int .i64), false, [.int .i64 0]⟩
noncomputable def ti4 : TI := ⟨.bool, 1, 1, false, some .bool, false, [.bool false]⟩
noncomputable def ti5 : TI := ⟨.int .u8, 1, 1, false, some (.int .u8), false, [.int .u8 0]⟩
noncomputable def ti6 : TI := ⟨.int .u8, 1, 1, false, some (.int .u8), false, [.int .u8 0]⟩
noncomputable def ti7 : TI := ⟨.st [(0, 1, 2), (1, 1, 3), (2, 1, 4), (3, 1, 6)], 4, 24, true, some (.cons (.int .i64) (.cons (.int .i64) (.cons .bool (.int .u8)))), true, [.int .i64 0, .int .i64 0, .bool false, .int .u8 0]⟩
noncomputable def ti8 : TI := ⟨.st [(0, 1, 2), (1, 1, 3), (2, 1, 4), (3, 1, 6)], 4, 24, true, some (.cons (.int .i64) (.cons (.int .i64) (.cons .bool (.int .u8)))), true, [.int .i64 0, .int .i64 0, .bool false, .int .u8 0]⟩
noncomputable def ti9 : TI := ⟨.str, 1, 16, false, some .str, false, [.string (ByteArray.mk (List.toArray []))]⟩
noncomputable def ti10 : TI := ⟨.str, 1, 16, false, some .str, false, [.string (ByteArray.mk (List.toArray []))]⟩
noncomputable def ti11 : TI := ⟨.str, 1, 16, false, some .str, false, [.string (ByteArray.mk (List.toArray []))]⟩
noncomputable def ti12 : TI := ⟨.int .u64, 1, 8, false, some (.int .u64), false, [.int .u64 0]⟩
noncomputable def ti13 : TI := ⟨.st [(0, 1, 9), (1, 1, 12)], 2, 24, true, some (.cons .str (.int .u64)), false, [.string (ByteArray.mk (List.toArray [])), .int .u64 0]⟩
noncomputable def ti14 : TI := ⟨.st [(0, 1, 9), (1, 1, 12)], 2, 24, true, some (.cons .str (.int .u64)), false, [.string (ByteArray.mk (List.toArray [])), .int .u64 0]⟩
noncomputable def ti15 : TI := ⟨.ptr, 1, 8, false, none, false, [.pointer none]⟩
noncomputable def ti16 : TI := ⟨.ptr, 1, 8, false, none, false, [.pointer none]⟩
noncomputable def ti17 : TI := ⟨.ptr, 1, 8, false, none, false, [.pointer none]⟩
noncomputable def ti18 : TI := ⟨.st [(0, 1, 17)], 1, 8, true, none, false, [.pointer none]⟩
noncomputable def ti19 : TI := ⟨.st [(0, 1, 17)], 1, 8, true, none, false, [.pointer none]⟩
noncomputable def ti21 : TI := ⟨.int .i32, 1, 4, false, some (.int .i32), false, [.int .i32 0]⟩
noncomputable def ti22 : TI := ⟨.st [(0, 1, 3), (1, 1, 3)], 2, 16, true, some (.cons (.int .i64) (.int .i64)), true, [.int .i64 0, .int .i64 0]⟩
noncomputable def ti23 : TI := ⟨.st [(0, 1, 3), (1, 1, 3)], 2, 16, true, some (.cons (.int .i64) (.int .i64)), true, [.int .i64 0, .int .i64 0]⟩
noncomputable def ti24 : TI := ⟨.sl 23, 1, 24, false, some (.sl true (.cons (.int .i64) (.int .i64))), false, [.slice none 0 0]⟩
noncomputable def ti25 : TI := ⟨.sl 40, 1, 24, false, some (.sl true (.cons (.int .i64) (.cons (.int .i64) (.int .i64)))), false, [.slice none 0 0]⟩
noncomputable def ti26 : TI := ⟨.st [(0, 1, 24), (1, 2, 23), (3, 1, 24), (4, 1, 25)], 5, 88, true, some (.cons (.sl true (.cons (.int .i64) (.int .i64))) (.cons (.int .i64) (.cons (.int .i64) (.cons (.sl true (.cons (.int .i64) (.int .i64))) (.sl true (.cons (.int .i64) (.cons (.int .i64) (.int .i64)))))))), false, [.slice none 0 0, .int .i64 0, .int .i64 0, .slice none 0 0, .slice none 0 0]⟩
noncomputable def ti27 : TI := ⟨.st [(0, 1, 24), (1, 2, 23), (3, 1, 24), (4, 1, 25)], 5, 88, true, some (.cons (.sl true (.cons (.int .i64) (.int .i64))) (.cons (.int .i64) (.cons (.int .i64) (.cons (.sl true (.cons (.int .i64) (.int .i64))) (.sl true (.cons (.int .i64) (.cons (.int .i64) (.int .i64)))))))), false, [.slice none 0 0, .int .i64 0, .int .i64 0, .slice none 0 0, .slice none 0 0]⟩
noncomputable def ti28 : TI := ⟨.sl 27, 1, 24, false, some (.sl true (.cons (.sl true (.cons (.int .i64) (.int .i64))) (.cons (.int .i64) (.cons (.int .i64) (.cons (.sl true (.cons (.int .i64) (.int .i64))) (.sl true (.cons (.int .i64) (.cons (.int .i64) (.int .i64))))))))), false, [.slice none 0 0]⟩
noncomputable def ti29 : TI := ⟨.sl 24, 1, 24, false, some (.sl false (.sl true (.cons (.int .i64) (.int .i64)))), false, [.slice none 0 0]⟩
noncomputable def ti30 : TI := ⟨.sl 38, 1, 24, false, some (.sl true (.cons (.sl true (.cons (.int .i64) (.int .i64))) (.cons (.int .i64) (.int .i64)))), false, [.slice none 0 0]⟩
noncomputable def ti31 : TI := ⟨.sl 36, 1, 24, false, some (.sl false (.int .u64)), false, [.slice none 0 0]⟩
noncomputable def ti32 : TI := ⟨.sl 9, 1, 24, false, some (.sl false .str), false, [.slice none 0 0]⟩
noncomputable def ti33 : TI := ⟨.st [(0, 1, 29), (1, 1, 28), (2, 1, 30), (3, 1, 31), (4, 1, 32)], 5, 120, true, some (.cons (.sl false (.sl true (.cons (.int .i64) (.int .i64)))) (.cons (.sl true (.cons (.sl true (.cons (.int .i64) (.int .i64))) (.cons (.int .i64) (.cons (.int .i64) (.cons (.sl true (.cons (.int .i64) (.int .i64))) (.sl true (.cons (.int .i64) (.cons (.int .i64) (.int .i64))))))))) (.cons (.sl true (.cons (.sl true (.cons (.int .i64) (.int .i64))) (.cons (.int .i64) (.int .i64)))) (.cons (.sl false (.int .u64)) (.sl false .str))))), false, [.slice none 0 0, .slice none 0 0, .slice none 0 0, .slice none 0 0, .slice none 0 0]⟩
noncomputable def ti34 : TI := ⟨.st [(0, 1, 29), (1, 1, 28), (2, 1, 30), (3, 1, 31), (4, 1, 32)], 5, 120, true, some (.cons (.sl false (.sl true (.cons (.int .i64) (.int .i64)))) (.cons (.sl true (.cons (.sl true (.cons (.int .i64) (.int .i64))) (.cons (.int .i64) (.cons (.int .i64) (.cons (.sl true (.cons (.int .i64) (.int .i64))) (.sl true (.cons (.int .i64) (.cons (.int .i64) (.int .i64))))))))) (.cons (.sl true (.cons (.sl true (.cons (.int .i64) (.int .i64))) (.cons (.int .i64) (.int .i64)))) (.cons (.sl false (.int .u64)) (.sl false .str))))), false, [.slice none 0 0, .slice none 0 0, .slice none 0 0, .slice none 0 0, .slice none 0 0]⟩
noncomputable def ti35 : TI := ⟨.sl 3, 1, 24, false, some (.sl false (.int .i64)), false, [.slice none 0 0]⟩
noncomputable def ti36 : TI := ⟨.int .u64, 1, 8, false, some (.int .u64), false, [.int .u64 0]⟩
noncomputable def ti37 : TI := ⟨.st [(0, 1, 24), (1, 2, 23)], 3, 40, true, some (.cons (.sl true (.cons (.int .i64) (.int .i64))) (.cons (.int .i64) (.int .i64))), false, [.slice none 0 0, .int .i64 0, .int .i64 0]⟩
noncomputable def ti38 : TI := ⟨.st [(0, 1, 24), (1, 2, 23)], 3, 40, true, some (.cons (.sl true (.cons (.int .i64) (.int .i64))) (.cons (.int .i64) (.int .i64))), false, [.slice none 0 0, .int .i64 0, .int .i64 0]⟩
noncomputable def ti39 : TI := ⟨.st [(0, 1, 3), (1, 1, 3), (2, 1, 3)], 3, 24, true, some (.cons (.int .i64) (.cons (.int .i64) (.int .i64))), true, [.int .i64 0, .int .i64 0, .int .i64 0]⟩
noncomputable def ti40 : TI := ⟨.st [(0, 1, 3), (1, 1, 3), (2, 1, 3)], 3, 24, true, some (.cons (.int .i64) (.cons (.int .i64) (.int .i64))), true, [.int .i64 0, .int .i64 0, .int .i64 0]⟩
noncomputable def ti41 : TI := ⟨.int .i64, 1, 8, false, some (.int .i64), false, [.int .i64 0]⟩
noncomputable def ti49 : TI := ⟨.sl 5, 1, 24, false, some (.sl false (.int .u8)), false, [.slice none 0 0]⟩
noncomputable def ti54 : TI := ⟨.int .u32, 1, 4, false, some (.int .u32), false, [.int .u32 0]⟩
noncomputable def ti62 : TI := ⟨.int .u16, 1, 2, false, some (.int .u16), false, [.int .u16 0]⟩
noncomputable def ti73 : TI := ⟨.sl 49, 1, 24, false, some (.sl false (.sl false (.int .u8))), false, [.slice none 0 0]⟩
noncomputable def ti81 : TI := ⟨.ptr, 1, 8, false, none, false, [.pointer none]⟩
noncomputable def ti82 : TI := ⟨.ptr, 1, 8, false, none, false, [.pointer none]⟩
noncomputable def ti84 : TI := ⟨.st [(0, 1, 82), (1, 1, 3), (2, 1, 4)], 3, 24, true, none, false, [.pointer none, .int .i64 0, .bool false]⟩
noncomputable def ti85 : TI := ⟨.st [(0, 1, 82), (1, 1, 3), (2, 1, 4)], 3, 24, true, none, false, [.pointer none, .int .i64 0, .bool false]⟩
noncomputable def ti122 : TI := ⟨.ptr, 1, 8, false, none, false, [.pointer none]⟩
noncomputable def ti123 : TI := ⟨.st [(0, 1, 49)], 1, 24, true, some (.sl false (.int .u8)), false, [.slice none 0 0]⟩
noncomputable def ti124 : TI := ⟨.st [(0, 1, 49)], 1, 24, true, some (.sl false (.int .u8)), false, [.slice none 0 0]⟩
noncomputable def ti127 : TI := ⟨.int .u64, 1, 8, false, some (.int .u64), false, [.int .u64 0]⟩
noncomputable def ti131 : TI := ⟨.st [(0, 1, 49), (1, 1, 4)], 2, 32, true, some (.cons (.sl false (.int .u8)) .bool), false, [.slice none 0 0, .bool false]⟩
noncomputable def ti132 : TI := ⟨.st [(0, 1, 49), (1, 1, 4)], 2, 32, true, some (.cons (.sl false (.int .u8)) .bool), false, [.slice none 0 0, .bool false]⟩
noncomputable def ti145 : TI := ⟨.arr 2 3, 2, 16, true, none, false, [.int .i64 0, .int .i64 0]⟩
noncomputable def ti149 : TI := ⟨.arr 2 36, 2, 16, true, none, false, [.int .u64 0, .int .u64 0]⟩
noncomputable def ti150 : TI := ⟨.st [(0, 1, 17), (1, 1, 17), (2, 1, 17), (3, 1, 9)], 4, 40, true, none, false, [.pointer none, .pointer none, .pointer none, .string (ByteArray.mk (List.toArray []))]⟩
noncomputable def ti151 : TI := ⟨.st [(0, 1, 17), (1, 1, 17), (2, 1, 17), (3, 1, 9)], 4, 40, true, none, false, [.pointer none, .pointer none, .pointer none, .string (ByteArray.mk (List.toArray []))]⟩
noncomputable def ti152 : TI := ⟨.arr 0 16, 0, 0, true, none, false, []⟩
noncomputable def ti153 : TI := ⟨.st [(0, 0, 152)], 0, 0, true, none, false, []⟩
noncomputable def ti154 : TI := ⟨.st [(0, 0, 152)], 0, 0, true, none, false, []⟩
noncomputable def ti155 : TI := ⟨.int .u8, 1, 1, false, some (.int .u8), false, [.int .u8 0]⟩
noncomputable def ti156 : TI := ⟨.int .u8, 1, 1, false, some (.int .u8), false, [.int .u8 0]⟩
noncomputable def ti158 : TI := ⟨.ptr, 1, 8, false, none, false, [.pointer none]⟩
noncomputable def ti159 : TI := ⟨.int .i32, 1, 4, false, some (.int .i32), false, [.int .i32 0]⟩
noncomputable def ti160 : TI := ⟨.int .i32, 1, 4, false, some (.int .i32), false, [.int .i32 0]⟩
noncomputable def ti163 : TI := ⟨.other, 1, 8, false, none, false, [.pointer none]⟩
noncomputable def tabL : List (Nat × TI) := [(2, ti2), (3, ti3), (4, ti4), (5, ti5), (6, ti6), (7, ti7), (8, ti8), (9, ti9), (10, ti10), (11, ti11), (12, ti12), (13, ti13), (14, ti14), (15, ti15), (16, ti16), (17, ti17), (18, ti18), (19, ti19), (21, ti21), (22, ti22), (23, ti23), (24, ti24), (25, ti25), (26, ti26), (27, ti27), (28, ti28), (29, ti29), (30, ti30), (31, ti31), (32, ti32), (33, ti33), (34, ti34), (35, ti35), (36, ti36), (37, ti37), (38, ti38), (39, ti39), (40, ti40), (41, ti41), (49, ti49), (54, ti54), (62, ti62), (73, ti73), (81, ti81), (82, ti82), (84, ti84), (85, ti85), (122, ti122), (123, ti123), (124, ti124), (127, ti127), (131, ti131), (132, ti132), (145, ti145), (149, ti149), (150, ti150), (151, ti151), (152, ti152), (153, ti153), (154, ti154), (155, ti155), (156, ti156), (158, ti158), (159, ti159), (160, ti160), (163, ti163)]
noncomputable def tab : TypeId → Option TI := fun t => assoc t tabL
theorem tab_ok : TabOK Try.prog tab := (show TabOK Try.prog (fun t => assoc t tabL) from TabOK.of_list _ (by kernel_rfl))
theorem prog_names : namesOK Try.prog = true := by kernel_rfl
theorem prog_mixed : Try.prog.follows .mixedOrders = true := by kernel_rfl
noncomputable def law07SaneChecks_an : Ann := {}
noncomputable def law07SaneChecks_c : Code := (match Try.f4.body with | some c => c | none => .skip)
noncomputable def law07SaneChecks_a : StSh := ⟨.normal, [0], (.cons (.agg (.cons (.sl true false yA) (.cons (.sl true true yB) (.cons (.sl true true yC) (.cons (.sl true false (.int .u64)) (.cons (.sl true false .str) .nil)))))) .nil), .nil⟩
noncomputable def ref01Light_an : Ann := { live := [(0, [1, 3, 4]), (2, [1, 3, 5]), (4, [1, 3, 6]), (6, [1, 3, 7])] }
noncomputable def ref01Light_c : Code := (match Try.f14.body with | some c => c | none => .skip)
noncomputable def ref01Light_l0 : Code := (match assoc 0 (loopsIn ref01Light_c 0) with | some c => c | none => .skip)
noncomputable def ref01Light_l2 : Code := (match assoc 2 (loopsIn ref01Light_c 0) with | some c => c | none => .skip)
noncomputable def ref01Light_l4 : Code := (match assoc 4 (loopsIn ref01Light_c 0) with | some c => c | none => .skip)
noncomputable def ref01Light_l6 : Code := (match assoc 6 (loopsIn ref01Light_c 0) with | some c => c | none => .skip)
noncomputable def ref01Light_a : StSh := ⟨.normal, [0], (.cons (.agg (.cons (.sl true false yA) (.cons (.sl true true yB) (.cons (.sl true true yC) (.cons (.sl true false (.int .u64)) (.cons (.sl true false .str) .nil)))))) .nil), .nil⟩
noncomputable def ref01Light_h0 : List StSh := [⟨.normal, [1, 3, 4], (.cons (.ptr 0 0 0 0) (.cons (.int .i64) (.cons (.int .i64) .nil))), (.cons (.bcells 0 false 1 (.cons (.sl true false yA) (.cons (.sl true true yB) (.cons (.sl true true yC) (.cons (.sl true false (.int .u64)) (.cons (.sl true false .str) .nil)))))) .nil)⟩]
noncomputable def ref01Light_o0 : List StSh := [⟨.exit 0, [1, 3], (.cons (.ptr 0 0 0 0) (.cons (.int .i64) .nil)), (.cons (.bcells 0 false 1 (.cons (.sl true false yA) (.cons (.sl true true yB) (.cons (.sl true true yC) (.cons (.sl true false (.int .u64)) (.cons (.sl true false .str) .nil)))))) .nil)⟩]
noncomputable def ref01Light_L0 (n : Nat) : LEntry := ⟨ref01Light_h0, ref01Light_o0, ref01Light_W0 n⟩
noncomputable def ref01Light_h2 : List StSh := [⟨.normal, [1, 3, 5], (.cons (.ptr 0 0 0 0) (.cons (.int .i64) (.cons (.int .i64) .nil))), (.cons (.bcells 0 false 1 (.cons (.sl true false yA) (.cons (.sl true true yB) (.cons (.sl true true yC) (.cons (.sl true false (.int .u64)) (.cons (.sl true false .str) .nil)))))) .nil)⟩]
noncomputable def ref01Light_o2 : List StSh := [⟨.exit 2, [1, 3], (.cons (.ptr 0 0 0 0) (.cons (.int .i64) .nil)), (.cons (.bcells 0 false 1 (.cons (.sl true false yA) (.cons (.sl true true yB) (.cons (.sl true true yC) (.cons (.sl true false (.int .u64)) (.cons (.sl true false .str) .nil)))))) .nil)⟩]
noncomputable def ref01Light_L2 (n : Nat) : LEntry := ⟨ref01Light_h2, ref01Light_o2, ref01Light_W2 n⟩
noncomputable def ref01Light_h4 : List StSh := [⟨.normal, [1, 3, 6], (.cons (.ptr 0 0 0 0) (.cons (.int .i64) (.cons (.int .i64) .nil))), (.cons (.bcells 0 false 1 (.cons (.sl true false yA) (.cons (.sl true true yB) (.cons (.sl true true yC) (.cons (.sl true false (.int .u64)) (.cons (.sl true false .str) .nil)))))) .nil)⟩]
noncomputable def ref01Light_o4 : List StSh := [⟨.exit 4, [1, 3], (.cons (.ptr 0 0 0 0) (.cons (.int .i64) .nil)), (.cons (.bcells 0 false 1 (.cons (.sl true false yA) (.cons (.sl true true yB) (.cons (.sl true true yC) (.cons (.sl true false (.int .u64)) (.cons (.sl true false .str) .nil)))))) .nil)⟩]
noncomputable def ref01Light_L4 (n : Nat) : LEntry := ⟨ref01Light_h4, ref01Light_o4, ref01Light_W4 n⟩
noncomputable def ref01Light_h6 : List StSh := [⟨.normal, [1, 3, 7], (.cons (.ptr 0 0 0 0) (.cons (.int .i64) (.cons (.int .i64) .nil))), (.cons (.bcells 0 false 1 (.cons (.sl true false yA) (.cons (.sl true true yB) (.cons (.sl true true yC) (.cons (.sl true false (.int .u64)) (.cons (.sl true false .str) .nil)))))) .nil)⟩]
noncomputable def ref01Light_o6 : List StSh := [⟨.exit 6, [3], (.cons (.int .i64) .nil), (.cons (.bcells 0 false 1 (.cons (.sl true false yA) (.cons (.sl true true yB) (.cons (.sl true true yC) (.cons (.sl true false (.int .u64)) (.cons (.sl true false .str) .nil)))))) .nil)⟩]
noncomputable def ref01Light_L6 (n : Nat) : LEntry := ⟨ref01Light_h6, ref01Light_o6, ref01Light_W6 n⟩
noncomputable def ref01Light_res : List StSh := [⟨.ret, [0], (.cons .bool .nil), .nil⟩]
noncomputable def ref01Light_tbl (n : Nat) : FuncId → List Entry := fun f => []
noncomputable def ref01Light_loops (n : Nat) : Nat → Option LEntry := fun f => bif Nat.beq f 0 then some (ref01Light_L0 n) else bif Nat.beq f 2 then some (ref01Light_L2 n) else bif Nat.beq f 4 then some (ref01Light_L4 n) else bif Nat.beq f 6 then some (ref01Light_L6 n) else none
theorem ref01Light_r0 (n : Nat) (t3 : Int) (t4 : Int) (m0 : DG) (m0_1 : DH) (m0_2 : DI) (m0_3 : DC) (m0_4 : DD) : roundK (real _) tab (ref01Light_tbl n) (ref01Light_loops n) ref01Light_an [] ref01Light_l0 0 [1, 3, 4] ref01Light_h0 ref01Light_o0 ((t3, t4), (m0, (m0_1, (m0_2, (m0_3, m0_4))))) some = ref01Light_B0 n t3 t4 m0 m0_1 m0_2 m0_3 m0_4 := by kernel_rfl
theorem ref01Light_f0 (n : Nat) : LoopFact tab (ref01Light_tbl n) (ref01Light_loops n) ref01Light_an [] n 0 ref01Light_l0 (ref01Light_L0 n) := ⟨[1, 3, 4], fun s => ref01Light_B0 n s.1.1 s.1.2 s.2.1 s.2.2.1 s.2.2.2.1 s.2.2.2.2.1 s.2.2.2.2.2, by kernel_rfl, by kernel_rfl, fun s => rfl, fun s => ref01Light_r0 n s.1.1 s.1.2 s.2.1 s.2.2.1 s.2.2.2.1 s.2.2.2.2.1 s.2.2.2.2.2⟩
theorem ref01Light_r2 (n : Nat) (t3 : Int) (t5 : Int) (m0 : DG) (m0_1 : DH) (m0_2 : DI) (m0_3 : DC) (m0_4 : DD) : roundK (real _) tab (ref01Light_tbl n) (ref01Light_loops n) ref01Light_an [] ref01Light_l2 2 [1, 3, 5] ref01Light_h2 ref01Light_o2 ((t3, t5), (m0, (m0_1, (m0_2, (m0_3, m0_4))))) some = ref01Light_B2 n t3 t5 m0 m0_1 m0_2 m0_3 m0_4 := by kernel_rfl
theorem ref01Light_f2 (n : Nat) : LoopFact tab (ref01Light_tbl n) (ref01Light_loops n) ref01Light_an [] n 2 ref01Light_l2 (ref01Light_L2 n) := ⟨[1, 3, 5], fun s => ref01Light_B2 n s.1.1 s.1.2 s.2.1 s.2.2.1 s.2.2.2.1 s.2.2.2.2.1 s.2.2.2.2.2, by kernel_rfl, by kernel_rfl, fun s => rfl, fun s => ref01Light_r2 n s.1.1 s.1.2 s.2.1 s.2.2.1 s.2.2.2.1 s.2.2.2.2.1 s.2.2.2.2.2⟩
theorem ref01Light_r4 (n : Nat) (t3 : Int) (t6 : Int) (m0 : DG) (m0_1 : DH) (m0_2 : DI) (m0_3 : DC) (m0_4 : DD) : roundK (real _) tab (ref01Light_tbl n) (ref01Light_loops n) ref01Light_an [] ref01Light_l4 4 [1, 3, 6] ref01Light_h4 ref01Light_o4 ((t3, t6), (m0, (m0_1, (m0_2, (m0_3, m0_4))))) some = ref01Light_B4 n t3 t6 m0 m0_1 m0_2 m0_3 m0_4 := by kernel_rfl
theorem ref01Light_f4 (n : Nat) : LoopFact tab (ref01Light_tbl n) (ref01Light_loops n) ref01Light_an [] n 4 ref01Light_l4 (ref01Light_L4 n) := ⟨[1, 3, 6], fun s => ref01Light_B4 n s.1.1 s.1.2 s.2.1 s.2.2.1 s.2.2.2.1 s.2.2.2.2.1 s.2.2.2.2.2, by kernel_rfl, by kernel_rfl, fun s => rfl, fun s => ref01Light_r4 n s.1.1 s.1.2 s.2.1 s.2.2.1 s.2.2.2.1 s.2.2.2.2.1 s.2.2.2.2.2⟩
theorem ref01Light_r6 (n : Nat) (t3 : Int) (t7 : Int) (m0 : DG) (m0_1 : DH) (m0_2 : DI) (m0_3 : DC) (m0_4 : DD) : roundK (real _) tab (ref01Light_tbl n) (ref01Light_loops n) ref01Light_an [] ref01Light_l6 6 [1, 3, 7] ref01Light_h6 ref01Light_o6 ((t3, t7), (m0, (m0_1, (m0_2, (m0_3, m0_4))))) some = ref01Light_B6 n t3 t7 m0 m0_1 m0_2 m0_3 m0_4 := by kernel_rfl
theorem ref01Light_f6 (n : Nat) : LoopFact tab (ref01Light_tbl n) (ref01Light_loops n) ref01Light_an [] n 6 ref01Light_l6 (ref01Light_L6 n) := ⟨[1, 3, 7], fun s => ref01Light_B6 n s.1.1 s.1.2 s.2.1 s.2.2.1 s.2.2.2.1 s.2.2.2.2.1 s.2.2.2.2.2, by kernel_rfl, by kernel_rfl, fun s => rfl, fun s => ref01Light_r6 n s.1.1 s.1.2 s.2.1 s.2.2.1 s.2.2.2.1 s.2.2.2.2.1 s.2.2.2.2.2⟩
theorem ref01Light_run (n : Nat) (t0 : DG) (t0_1 : DH) (t0_2 : DI) (t0_3 : DC) (t0_4 : DD) : funDS (real _) tab (ref01Light_tbl n) (ref01Light_loops n) ref01Light_an Try.f14 0 ref01Light_a ref01Light_res (t0, (t0_1, (t0_2, (t0_3, t0_4)))) some = ref01Light n t0 t0_1 t0_2 t0_3 t0_4 := by kernel_rfl
noncomputable def ref01Light_E (n : Nat) : Entry := ⟨ref01Light_a, ref01Light_res, fun d => ref01Light n d.1 d.2.1 d.2.2.1 d.2.2.2.1 d.2.2.2.2⟩
theorem ref01Light_ok (n : Nat) : EOK Try.prog 14 (ref01Light_E n) :=
  EOK.ofS prog_names prog_mixed tab_ok (tbl := ref01Light_tbl n) (loops := ref01Light_loops n) (an := ref01Light_an) (old := []) (n := n) (c := ref01Light_c) (fn := Try.f14) TblOK.nil (by kernel_rfl) (by kernel_rfl) (by kernel_rfl) (by kernel_rfl) (fun d => by kernel_rfl) (LT.cons (by kernel_rfl) (ref01Light_f0 n) (LT.cons (by kernel_rfl) (ref01Light_f2 n) (LT.cons (by kernel_rfl) (ref01Light_f4 n) (LT.cons (by kernel_rfl) (ref01Light_f6 n) LT.nil)))) (fun a => ref01Light_run n a.1 a.2.1 a.2.2.1 a.2.2.2.1 a.2.2.2.2)
noncomputable def law07Answers_an : Ann := {}
noncomputable def law07Answers_c : Code := (match Try.f13.body with | some c => c | none => .skip)
noncomputable def law07Answers_a : StSh := ⟨.normal, [], .nil, .nil⟩
noncomputable def saneCheck_an : Ann := { live := [(0, [1, 18, 19, 20])] }
noncomputable def saneCheck_c : Code := (match Try.f12.body with | some c => c | none => .skip)
noncomputable def saneCheck_l0 : Code := (match assoc 0 (loopsIn saneCheck_c 0) with | some c => c | none => .skip)
noncomputable def saneCheck_a : StSh := ⟨.normal, [0], (.cons (.agg (.cons (.sl true false yA) (.cons (.sl true true yB) (.cons (.sl true true yC) (.cons (.sl true false (.int .u64)) (.cons (.sl true false .str) .nil)))))) .nil), .nil⟩
noncomputable def moduleEncode_an : Ann := {}
noncomputable def moduleEncode_c : Code := (match Try.f20.body with | some c => c | none => .skip)
noncomputable def moduleEncode_a : StSh := ⟨.normal, [0], (.cons (.agg (.cons (.sl true false yA) (.cons (.sl true true yB) (.cons (.sl true true yC) (.cons (.sl true false (.int .u64)) (.cons (.sl true false .str) .nil)))))) .nil), .nil⟩
noncomputable def moduleFits_an : Ann := {}
noncomputable def moduleFits_c : Code := (match Try.f39.body with | some c => c | none => .skip)
noncomputable def moduleFits_a : StSh := ⟨.normal, [0], (.cons (.agg (.cons (.sl true false yA) (.cons (.sl true true yB) (.cons (.sl true true yC) (.cons (.sl true false (.int .u64)) (.cons (.sl true false .str) .nil)))))) .nil), .nil⟩
noncomputable def ContainsFuncTypeq1_an : Ann := {}
noncomputable def ContainsFuncTypeq1_c : Code := (match Try.f85.body with | some c => c | none => .skip)
noncomputable def ContainsFuncTypeq1_a : StSh := ⟨.normal, [0, 1], (.cons (.sl true false yA) (.cons (.fn 86 .nil (.cons (.ptr 0 0 0 0) .nil)) .nil)), (.cons (.bcells 0 false 1 (.cons (.int .i64) .nil)) .nil)⟩
noncomputable def IndexFuncTypeq1_an : Ann := { live := [(0, [0, 1, 7, 8])] }
noncomputable def IndexFuncTypeq1_c : Code := (match Try.f111.body with | some c => c | none => .skip)
noncomputable def IndexFuncTypeq1_l0 : Code := (match assoc 0 (loopsIn IndexFuncTypeq1_c 0) with | some c => c | none => .skip)
noncomputable def IndexFuncTypeq1_a : StSh := ⟨.normal, [0, 1], (.cons (.sl true false yA) (.cons (.fn 86 .nil (.cons (.ptr 0 0 0 0) .nil)) .nil)), (.cons (.bcells 0 false 1 (.cons (.int .i64) .nil)) .nil)⟩
noncomputable def moduleFits1_an : Ann := {}
noncomputable def moduleFits1_c : Code := (match Try.f86.body with | some c => c | none => .skip)
noncomputable def moduleFits1_a : StSh := ⟨.normal, [0, 1], (.cons (.sl true true yD) (.cons (.ptr 0 0 0 0) .nil)), (.cons (.bcells 0 false 1 (.cons (.int .i64) .nil)) .nil)⟩
noncomputable def moduleGood_an : Ann := {}
noncomputable def moduleGood_c : Code := (match Try.f87.body with | some c => c | none => .skip)
noncomputable def moduleGood_a : StSh := ⟨.normal, [0, 1, 2], (.cons (.sl true true yD) (.cons (.int .i64) (.cons (.int .i64) .nil))), .nil⟩
noncomputable def ContainsFuncType_an : Ann := {}
noncomputable def ContainsFuncType_c : Code := (match Try.f31.body with | some c => c | none => .skip)
noncomputable def ContainsFuncType_a : StSh := ⟨.normal, [0, 1], (.cons (.sl true true yD) (.cons (.fn 112 .nil (.cons (.ptr 0 0 0 0) .nil)) .nil)), (.cons (.bcells 0 false 1 (.cons (.int .i64) .nil)) .nil)⟩
noncomputable def IndexFuncType_an : Ann := { live := [(0, [0, 1, 7, 8])] }
noncomputable def IndexFuncType_c : Code := (match Try.f83.body with | some c => c | none => .skip)
noncomputable def IndexFuncType_l0 : Code := (match assoc 0 (loopsIn IndexFuncType_c 0) with | some c => c | none => .skip)
noncomputable def IndexFuncType_a : StSh := ⟨.normal, [0, 1], (.cons (.sl true true yD) (.cons (.fn 112 .nil (.cons (.ptr 0 0 0 0) .nil)) .nil)), (.cons (.bcells 0 false 1 (.cons (.int .i64) .nil)) .nil)⟩
noncomputable def moduleGood1_an : Ann := {}
noncomputable def moduleGood1_c : Code := (match Try.f112.body with | some c => c | none => .skip)
noncomputable def moduleGood1_a : StSh := ⟨.normal, [0, 1], (.cons (.agg (.cons (.int .i64) (.cons (.int .i64) .nil))) (.cons (.ptr 0 0 0 0) .nil)), (.cons (.bcells 0 false 1 (.cons (.int .i64) .nil)) .nil)⟩
noncomputable def kindGood_an : Ann := {}
noncomputable def kindGood_c : Code := (match Try.f92.body with | some c => c | none => .skip)
noncomputable def kindGood_a : StSh := ⟨.normal, [0, 1], (.cons (.agg (.cons (.int .i64) (.cons (.int .i64) .nil))) (.cons (.int .i64) .nil)), .nil⟩
noncomputable def kindGood_res : List StSh := [⟨.ret, [0], (.cons .bool .nil), .nil⟩]
noncomputable def kindGood_tbl (n : Nat) : FuncId → List Entry := fun f => []
noncomputable def kindGood_loops (n : Nat) : Nat → Option LEntry := fun f => none
theorem kindGood_run (n : Nat) (t_0 : Int) (t_0_1 : Int) (recs_1 : Int) : funDS (real _) tab (kindGood_tbl n) (kindGood_loops n) kindGood_an Try.f92 0 kindGood_a kindGood_res ((t_0, t_0_1), recs_1) some = kindGood n t_0 t_0_1 recs_1 := by kernel_rfl
noncomputable def kindGood_E (n : Nat) : Entry := ⟨kindGood_a, kindGood_res, fun d => kindGood n d.1.1 d.1.2 d.2⟩
theorem kindGood_ok (n : Nat) : EOK Try.prog 92 (kindGood_E n) :=
  EOK.ofS prog_names prog_mixed tab_ok (tbl := kindGood_tbl n) (loops := kindGood_loops n) (an := kindGood_an) (old := []) (n := n) (c := kindGood_c) (fn := Try.f92) TblOK.nil (by kernel_rfl) (by kernel_rfl) (by kernel_rfl) (by kernel_rfl) (fun d => by kernel_rfl) LT.nil (fun a => kindGood_run n a.1.1 a.1.2 a.2)
noncomputable def moduleGood1_res : List StSh := [⟨.ret, [0], (.cons .bool .nil), (.cons (.bcells 0 false 1 (.cons (.int .i64) .nil)) .nil)⟩]
noncomputable def moduleGood1_tbl (n : Nat) : FuncId → List Entry := fun f => bif Nat.beq f 92 then [kindGood_E n] else []
noncomputable def moduleGood1_loops (n : Nat) : Nat → Option LEntry := fun f => none
theorem moduleGood1_run (n : Nat) (t_0 : Int) (t_0_1 : Int) (m0 : Int) : funDS (real _) tab (moduleGood1_tbl n) (moduleGood1_loops n) moduleGood1_an Try.f112 1 moduleGood1_a moduleGood1_res ((t_0, t_0_1), m0) some = moduleGood1 n t_0 t_0_1 m0 := by kernel_rfl
noncomputable def moduleGood1_E (n : Nat) : Entry := ⟨moduleGood1_a, moduleGood1_res, fun d => moduleGood1 n d.1.1 d.1.2 d.2⟩
theorem moduleGood1_ok (n : Nat) : EOK Try.prog 112 (moduleGood1_E n) :=
  EOK.ofS prog_names prog_mixed tab_ok (tbl := moduleGood1_tbl n) (loops := moduleGood1_loops n) (an := moduleGood1_an) (old := [some true]) (n := n) (c := moduleGood1_c) (fn := Try.f112) (TblOK.cons (AllE.cons (kindGood_ok n) AllE.nil) TblOK.nil) (by kernel_rfl) (by kernel_rfl) (by kernel_rfl) (by kernel_rfl) (fun d => by kernel_rfl) LT.nil (fun a => moduleGood1_run n a.1.1 a.1.2 a.2)
noncomputable def IndexFuncType_h0 : List StSh := [⟨.normal, [0, 1, 7, 8], (.cons (.sl true true yD) (.cons (.fn 112 .nil (.cons (.ptr 0 0 0 0) .nil)) (.cons (.int .i64) (.cons (.int .i64) .nil)))), (.cons (.bcells 0 false 1 (.cons (.int .i64) .nil)) .nil)⟩]
noncomputable def IndexFuncType_o0 : List StSh := [⟨.ret, [4], (.cons (.int .i64) .nil), (.cons (.bcells 0 false 1 (.cons (.int .i64) .nil)) .nil)⟩, ⟨.exit 0, [], .nil, (.cons (.bcells 0 false 1 (.cons (.int .i64) .nil)) .nil)⟩]
noncomputable def IndexFuncType_L0 (n : Nat) : LEntry := ⟨IndexFuncType_h0, IndexFuncType_o0, IndexFuncType_W0 n⟩
noncomputable def IndexFuncType_res : List StSh := [⟨.ret, [0], (.cons (.int .i64) .nil), (.cons (.bcells 0 false 1 (.cons (.int .i64) .nil)) .nil)⟩]
noncomputable def IndexFuncType_tbl (n : Nat) : FuncId → List Entry := fun f => bif Nat.beq f 112 then [moduleGood1_E n] else []
noncomputable def IndexFuncType_loops (n : Nat) : Nat → Option LEntry := fun f => bif Nat.beq f 0 then some (IndexFuncType_L0 n) else none
theorem IndexFuncType_r0 (n : Nat) (s_0 : DA) (t7 : Int) (t8 : Int) (m0 : Int) : roundK (real _) tab (IndexFuncType_tbl n) (IndexFuncType_loops n) IndexFuncType_an [some true] IndexFuncType_l0 0 [0, 1, 7, 8] IndexFuncType_h0 IndexFuncType_o0 ((s_0, (t7, t8)), m0) some = IndexFuncType_B0 n s_0 t7 t8 m0 := by kernel_rfl
theorem IndexFuncType_f0 (n : Nat) : LoopFact tab (IndexFuncType_tbl n) (IndexFuncType_loops n) IndexFuncType_an [some true] n 0 IndexFuncType_l0 (IndexFuncType_L0 n) := ⟨[0, 1, 7, 8], fun s => IndexFuncType_B0 n s.1.1 s.1.2.1 s.1.2.2 s.2, by kernel_rfl, by kernel_rfl, fun s => rfl, fun s => IndexFuncType_r0 n s.1.1 s.1.2.1 s.1.2.2 s.2⟩
theorem IndexFuncType_run (n : Nat) (s_0 : DA) (m0 : Int) : funDS (real _) tab (IndexFuncType_tbl n) (IndexFuncType_loops n) IndexFuncType_an Try.f83 1 IndexFuncType_a IndexFuncType_res (s_0, m0) some = IndexFuncType n s_0 m0 := by kernel_rfl
noncomputable def IndexFuncType_E (n : Nat) : Entry := ⟨IndexFuncType_a, IndexFuncType_res, fun d => IndexFuncType n d.1 d.2⟩
theorem IndexFuncType_ok (n : Nat) : EOK Try.prog 83 (IndexFuncType_E n) :=
  EOK.ofS prog_names prog_mixed tab_ok (tbl := IndexFuncType_tbl n) (loops := IndexFuncType_loops n) (an := IndexFuncType_an) (old := [some true]) (n := n) (c := IndexFuncType_c) (fn := Try.f83) (TblOK.cons (AllE.cons (moduleGood1_ok n) AllE.nil) TblOK.nil) (by kernel_rfl) (by kernel_rfl) (by kernel_rfl) (by kernel_rfl) (fun d => by kernel_rfl) (LT.cons (by kernel_rfl) (IndexFuncType_f0 n) LT.nil) (fun a => IndexFuncType_run n a.1 a.2)
noncomputable def ContainsFuncType_res : List StSh := [⟨.ret, [0], (.cons .bool .nil), (.cons (.bcells 0 false 1 (.cons (.int .i64) .nil)) .nil)⟩]
noncomputable def ContainsFuncType_tbl (n : Nat) : FuncId → List Entry := fun f => bif Nat.beq f 83 then [IndexFuncType_E n] else []
noncomputable def ContainsFuncType_loops (n : Nat) : Nat → Option LEntry := fun f => none
theorem ContainsFuncType_run (n : Nat) (s_0 : DA) (m0 : Int) : funDS (real _) tab (ContainsFuncType_tbl n) (ContainsFuncType_loops n) ContainsFuncType_an Try.f31 1 ContainsFuncType_a ContainsFuncType_res (s_0, m0) some = ContainsFuncType n s_0 m0 := by kernel_rfl
noncomputable def ContainsFuncType_E (n : Nat) : Entry := ⟨ContainsFuncType_a, ContainsFuncType_res, fun d => ContainsFuncType n d.1 d.2⟩
theorem ContainsFuncType_ok (n : Nat) : EOK Try.prog 31 (ContainsFuncType_E n) :=
  EOK.ofS prog_names prog_mixed tab_ok (tbl := ContainsFuncType_tbl n) (loops := ContainsFuncType_loops n) (an := ContainsFuncType_an) (old := [some true]) (n := n) (c := ContainsFuncType_c) (fn := Try.f31) (TblOK.cons (AllE.cons (IndexFuncType_ok n) AllE.nil) TblOK.nil) (by kernel_rfl) (by kernel_rfl) (by kernel_rfl) (by kernel_rfl) (fun d => by kernel_rfl) LT.nil (fun a => ContainsFuncType_run n a.1 a.2)
noncomputable def moduleGood_res : List StSh := [⟨.ret, [0], (.cons .bool .nil), .nil⟩]
noncomputable def moduleGood_tbl (n : Nat) : FuncId → List Entry := fun f => bif Nat.beq f 31 then [ContainsFuncType_E n] else []
noncomputable def moduleGood_loops (n : Nat) : Nat → Option LEntry := fun f => none
theorem moduleGood_run (n : Nat) (list_0 : DA) (recs_1 : Int) (most_2 : Int) : funDS (real _) tab (moduleGood_tbl n) (moduleGood_loops n) moduleGood_an Try.f87 0 moduleGood_a moduleGood_res (list_0, (recs_1, most_2)) some = moduleGood n list_0 recs_1 most_2 := by kernel_rfl
noncomputable def moduleGood_E (n : Nat) : Entry := ⟨moduleGood_a, moduleGood_res, fun d => moduleGood n d.1 d.2.1 d.2.2⟩
theorem moduleGood_ok (n : Nat) : EOK Try.prog 87 (moduleGood_E n) :=
  EOK.ofS prog_names prog_mixed tab_ok (tbl := moduleGood_tbl n) (loops := moduleGood_loops n) (an := moduleGood_an) (old := []) (n := n) (c := moduleGood_c) (fn := Try.f87) (TblOK.cons (AllE.cons (ContainsFuncType_ok n) AllE.nil) TblOK.nil) (by kernel_rfl) (by kernel_rfl) (by kernel_rfl) (by kernel_rfl) (fun d => by kernel_rfl) LT.nil (fun a => moduleGood_run n a.1 a.2.1 a.2.2)
noncomputable def moduleFits1_res : List StSh := [⟨.ret, [0], (.cons .bool .nil), (.cons (.bcells 0 false 1 (.cons (.int .i64) .nil)) .nil)⟩]
noncomputable def moduleFits1_tbl (n : Nat) : FuncId → List Entry := fun f => bif Nat.beq f 87 then [moduleGood_E n] else []
noncomputable def moduleFits1_loops (n : Nat) : Nat → Option LEntry := fun f => none
theorem moduleFits1_run (n : Nat) (l_0 : DA) (m0 : Int) : funDS (real _) tab (moduleFits1_tbl n) (moduleFits1_loops n) moduleFits1_an Try.f86 1 moduleFits1_a moduleFits1_res (l_0, m0) some = moduleFits1 n l_0 m0 := by kernel_rfl
noncomputable def moduleFits1_E (n : Nat) : Entry := ⟨moduleFits1_a, moduleFits1_res, fun d => moduleFits1 n d.1 d.2⟩
theorem moduleFits1_ok (n : Nat) : EOK Try.prog 86 (moduleFits1_E n) :=
  EOK.ofS prog_names prog_mixed tab_ok (tbl := moduleFits1_tbl n) (loops := moduleFits1_loops n) (an := moduleFits1_an) (old := [some true]) (n := n) (c := moduleFits1_c) (fn := Try.f86) (TblOK.cons (AllE.cons (moduleGood_ok n) AllE.nil) TblOK.nil) (by kernel_rfl) (by kernel_rfl) (by kernel_rfl) (by kernel_rfl) (fun d => by kernel_rfl) LT.nil (fun a => moduleFits1_run n a.1 a.2)
noncomputable def IndexFuncTypeq1_h0 : List StSh := [⟨.normal, [0, 1, 7, 8], (.cons (.sl true false yA) (.cons (.fn 86 .nil (.cons (.ptr 0 0 0 0) .nil)) (.cons (.int .i64) (.cons (.int .i64) .nil)))), (.cons (.bcells 0 false 1 (.cons (.int .i64) .nil)) .nil)⟩]
noncomputable def IndexFuncTypeq1_o0 : List StSh := [⟨.ret, [4], (.cons (.int .i64) .nil), (.cons (.bcells 0 false 1 (.cons (.int .i64) .nil)) .nil)⟩, ⟨.exit 0, [], .nil, (.cons (.bcells 0 false 1 (.cons (.int .i64) .nil)) .nil)⟩]
noncomputable def IndexFuncTypeq1_L0 (n : Nat) : LEntry := ⟨IndexFuncTypeq1_h0, IndexFuncTypeq1_o0, IndexFuncTypeq1_W0 n⟩
noncomputable def IndexFuncTypeq1_res : List StSh := [⟨.ret, [0], (.cons (.int .i64) .nil), (.cons (.bcells 0 false 1 (.cons (.int .i64) .nil)) .nil)⟩]
noncomputable def IndexFuncTypeq1_tbl (n : Nat) : FuncId → List Entry := fun f => bif Nat.beq f 86 then [moduleFits1_E n] else []
noncomputable def IndexFuncTypeq1_loops (n : Nat) : Nat → Option LEntry := fun f => bif Nat.beq f 0 then some (IndexFuncTypeq1_L0 n) else none
theorem IndexFuncTypeq1_r0 (n : Nat) (s_0 : DG) (t7 : Int) (t8 : Int) (m0 : Int) : roundK (real _) tab (IndexFuncTypeq1_tbl n) (IndexFuncTypeq1_loops n) IndexFuncTypeq1_an [some true] IndexFuncTypeq1_l0 0 [0, 1, 7, 8] IndexFuncTypeq1_h0 IndexFuncTypeq1_o0 ((s_0, (t7, t8)), m0) some = IndexFuncTypeq1_B0 n s_0 t7 t8 m0 := by kernel_rfl
theorem IndexFuncTypeq1_f0 (n : Nat) : LoopFact tab (IndexFuncTypeq1_tbl n) (IndexFuncTypeq1_loops n) IndexFuncTypeq1_an [some true] n 0 IndexFuncTypeq1_l0 (IndexFuncTypeq1_L0 n) := ⟨[0, 1, 7, 8], fun s => IndexFuncTypeq1_B0 n s.1.1 s.1.2.1 s.1.2.2 s.2, by kernel_rfl, by kernel_rfl, fun s => rfl, fun s => IndexFuncTypeq1_r0 n s.1.1 s.1.2.1 s.1.2.2 s.2⟩
theorem IndexFuncTypeq1_run (n : Nat) (s_0 : DG) (m0 : Int) : funDS (real _) tab (IndexFuncTypeq1_tbl n) (IndexFuncTypeq1_loops n) IndexFuncTypeq1_an Try.f111 1 IndexFuncTypeq1_a IndexFuncTypeq1_res (s_0, m0) some = IndexFuncTypeq1 n s_0 m0 := by kernel_rfl
noncomputable def IndexFuncTypeq1_E (n : Nat) : Entry := ⟨IndexFuncTypeq1_a, IndexFuncTypeq1_res, fun d => IndexFuncTypeq1 n d.1 d.2⟩
theorem IndexFuncTypeq1_ok (n : Nat) : EOK Try.prog 111 (IndexFuncTypeq1_E n) :=
  EOK.ofS prog_names prog_mixed tab_ok (tbl := IndexFuncTypeq1_tbl n) (loops := IndexFuncTypeq1_loops n) (an := IndexFuncTypeq1_an) (old := [some true]) (n := n) (c := IndexFuncTypeq1_c) (fn := Try.f111) (TblOK.cons (AllE.cons (moduleFits1_ok n) AllE.nil) TblOK.nil) (by kernel_rfl) (by kernel_rfl) (by kernel_rfl) (by kernel_rfl) (fun d => by kernel_rfl) (LT.cons (by kernel_rfl) (IndexFuncTypeq1_f0 n) LT.nil) (fun a => IndexFuncTypeq1_run n a.1 a.2)
noncomputable def ContainsFuncTypeq1_res : List StSh := [⟨.ret, [0], (.cons .bool .nil), (.cons (.bcells 0 false 1 (.cons (.int .i64) .nil)) .nil)⟩]
noncomputable def ContainsFuncTypeq1_tbl (n : Nat) : FuncId → List Entry := fun f => bif Nat.beq f 111 then [IndexFuncTypeq1_E n] else []
noncomputable def ContainsFuncTypeq1_loops (n : Nat) : Nat → Option LEntry := fun f => none
theorem ContainsFuncTypeq1_run (n : Nat) (s_0 : DG) (m0 : Int) : funDS (real _) tab (ContainsFuncTypeq1_tbl n) (ContainsFuncTypeq1_loops n) ContainsFuncTypeq1_an Try.f85 1 ContainsFuncTypeq1_a ContainsFuncTypeq1_res (s_0, m0) some = ContainsFuncTypeq1 n s_0 m0 := by kernel_rfl
noncomputable def ContainsFuncTypeq1_E (n : Nat) : Entry := ⟨ContainsFuncTypeq1_a, ContainsFuncTypeq1_res, fun d => ContainsFuncTypeq1 n d.1 d.2⟩
theorem ContainsFuncTypeq1_ok (n : Nat) : EOK Try.prog 85 (ContainsFuncTypeq1_E n) :=
  EOK.ofS prog_names prog_mixed tab_ok (tbl := ContainsFuncTypeq1_tbl n) (loops := ContainsFuncTypeq1_loops n) (an := ContainsFuncTypeq1_an) (old := [some true]) (n := n) (c := ContainsFuncTypeq1_c) (fn := Try.f85) (TblOK.cons (AllE.cons (IndexFuncTypeq1_ok n) AllE.nil) TblOK.nil) (by kernel_rfl) (by kernel_rfl) (by kernel_rfl) (by kernel_rfl) (fun d => by kernel_rfl) LT.nil (fun a => ContainsFuncTypeq1_run n a.1 a.2)
noncomputable def ContainsFuncFunc_an : Ann := {}
noncomputable def ContainsFuncFunc_c : Code := (match Try.f88.body with | some c => c | none => .skip)
noncomputable def ContainsFuncFunc_a : StSh := ⟨.normal, [0, 1], (.cons (.sl true true yB) (.cons (.fn 89 .nil (.cons (.ptr 0 0 0 0) .nil)) .nil)), (.cons (.bcells 0 false 1 (.cons (.int .i64) .nil)) .nil)⟩
noncomputable def IndexFuncFunc_an : Ann := { live := [(0, [0, 1, 7, 8])] }
noncomputable def IndexFuncFunc_c : Code := (match Try.f113.body with | some c => c | none => .skip)
noncomputable def IndexFuncFunc_l0 : Code := (match assoc 0 (loopsIn IndexFuncFunc_c 0) with | some c => c | none => .skip)
noncomputable def IndexFuncFunc_a : StSh := ⟨.normal, [0, 1], (.cons (.sl true true yB) (.cons (.fn 89 .nil (.cons (.ptr 0 0 0 0) .nil)) .nil)), (.cons (.bcells 0 false 1 (.cons (.int .i64) .nil)) .nil)⟩
noncomputable def moduleFits2_an : Ann := {}
noncomputable def moduleFits2_c : Code := (match Try.f89.body with | some c => c | none => .skip)
noncomputable def moduleFits2_a : StSh := ⟨.normal, [0, 1], (.cons (.agg (.cons (.sl true true yD) (.cons (.int .i64) (.cons (.int .i64) (.cons (.sl true true yD) (.cons (.sl true true yE) .nil)))))) (.cons (.ptr 0 0 0 0) .nil)), (.cons (.bcells 0 false 1 (.cons (.int .i64) .nil)) .nil)⟩
noncomputable def moduleFitFunc_an : Ann := {}
noncomputable def moduleFitFunc_c : Code := (match Try.f90.body with | some c => c | none => .skip)
noncomputable def moduleFitFunc_a : StSh := ⟨.normal, [0, 1], (.cons (.agg (.cons (.sl true true yD) (.cons (.int .i64) (.cons (.int .i64) (.cons (.sl true true yD) (.cons (.sl true true yE) .nil)))))) (.cons (.int .i64) .nil)), .nil⟩
noncomputable def ContainsFuncInstr_an : Ann := {}
noncomputable def ContainsFuncInstr_c : Code := (match Try.f30.body with | some c => c | none => .skip)
noncomputable def ContainsFuncInstr_a : StSh := ⟨.normal, [0, 1], (.cons (.sl true true yE) (.cons (.fn 114 .nil .nil) .nil)), .nil⟩
noncomputable def IndexFuncInstr_an : Ann := { live := [(0, [0, 1, 7, 8])] }
noncomputable def IndexFuncInstr_c : Code := (match Try.f82.body with | some c => c | none => .skip)
noncomputable def IndexFuncInstr_l0 : Code := (match assoc 0 (loopsIn IndexFuncInstr_c 0) with | some c => c | none => .skip)
noncomputable def IndexFuncInstr_a : StSh := ⟨.normal, [0, 1], (.cons (.sl true true yE) (.cons (.fn 114 .nil .nil) .nil)), .nil⟩
noncomputable def moduleFitFunc1_an : Ann := {}
noncomputable def moduleFitFunc1_c : Code := (match Try.f114.body with | some c => c | none => .skip)
noncomputable def moduleFitFunc1_a : StSh := ⟨.normal, [0], (.cons (.agg (.cons (.int .i64) (.cons (.int .i64) (.cons (.int .i64) .nil)))) .nil), .nil⟩
noncomputable def instPut_an : Ann := { live := [(0, [4, 39, 40, 41])], boxed := [(4, 3), (9, 4)] }
noncomputable def instPut_c : Code := (match Try.f99.body with | some c => c | none => .skip)
noncomputable def instPut_l0 : Code := (match assoc 0 (loopsIn instPut_c 0) with | some c => c | none => .skip)
noncomputable def instPut_a : StSh := ⟨.normal, [0], (.cons (.agg (.cons (.int .i64) (.cons (.int .i64) (.cons (.int .i64) .nil)))) .nil), .nil⟩
noncomputable def instArgs_an : Ann := {}
noncomputable def instArgs_c : Code := (match Try.f116.body with | some c => c | none => .skip)
noncomputable def instArgs_a : StSh := ⟨.normal, [0], (.cons (.int .i64) .nil), .nil⟩
noncomputable def instArgs_res : List StSh := [⟨.ret, [0], (.cons (.int .i64) .nil), .nil⟩]
noncomputable def instArgs_tbl (n : Nat) : FuncId → List Entry := fun f => []
noncomputable def instArgs_loops (n : Nat) : Nat → Option LEntry := fun f => none
theorem instArgs_run (n : Nat) (op_0 : Int) : funDS (real _) tab (instArgs_tbl n) (instArgs_loops n) instArgs_an Try.f116 0 instArgs_a instArgs_res op_0 some = instArgs n op_0 := by kernel_rfl
noncomputable def instArgs_E (n : Nat) : Entry := ⟨instArgs_a, instArgs_res, fun d => instArgs n d⟩
theorem instArgs_ok (n : Nat) : EOK Try.prog 116 (instArgs_E n) :=
  EOK.ofS prog_names prog_mixed tab_ok (tbl := instArgs_tbl n) (loops := instArgs_loops n) (an := instArgs_an) (old := []) (n := n) (c := instArgs_c) (fn := Try.f116) TblOK.nil (by kernel_rfl) (by kernel_rfl) (by kernel_rfl) (by kernel_rfl) (fun d => by kernel_rfl) LT.nil (fun a => instArgs_run n a)
noncomputable def instMay_an : Ann := {}
noncomputable def instMay_c : Code := (match Try.f117.body with | some c => c | none => .skip)
noncomputable def instMay_a : StSh := ⟨.normal, [0, 1], (.cons (.int .i64) (.cons .bool .nil)), .nil⟩
noncomputable def instMay_res : List StSh := [⟨.ret, [0], (.cons .bool .nil), .nil⟩]
noncomputable def instMay_tbl (n : Nat) : FuncId → List Entry := fun f => []
noncomputable def instMay_loops (n : Nat) : Nat → Option LEntry := fun f => none
theorem instMay_run (n : Nat) (n_0 : Int) (has_1 : Bool) : funDS (real _) tab (instMay_tbl n) (instMay_loops n) instMay_an Try.f117 0 instMay_a instMay_res (n_0, has_1) some = instMay n n_0 has_1 := by kernel_rfl
noncomputable def instMay_E (n : Nat) : Entry := ⟨instMay_a, instMay_res, fun d => instMay n d.1 d.2⟩
theorem instMay_ok (n : Nat) : EOK Try.prog 117 (instMay_E n) :=
  EOK.ofS prog_names prog_mixed tab_ok (tbl := instMay_tbl n) (loops := instMay_loops n) (an := instMay_an) (old := []) (n := n) (c := instMay_c) (fn := Try.f117) TblOK.nil (by kernel_rfl) (by kernel_rfl) (by kernel_rfl) (by kernel_rfl) (fun d => by kernel_rfl) LT.nil (fun a => instMay_run n a.1 a.2)
noncomputable def numVar_an : Ann := { live := [(0, [0, 3])], boxed := [(0, 0), (1, 0), (4, 5), (5, 4)] }
noncomputable def numVar_c : Code := (match Try.f95.body with | some c => c | none => .skip)
noncomputable def numVar_l0 : Code := (match assoc 0 (loopsIn numVar_c 0) with | some c => c | none => .skip)
noncomputable def numVar_a : StSh := ⟨.normal, [0], (.cons (.int .u64) .nil), .nil⟩
noncomputable def numVar_h0 : List StSh := [⟨.normal, [0, 3], (.cons (.int .u64) (.cons (.msw 0 0) .nil)), (.cons (.bts 0 false false false (.int .u8)) .nil)⟩]
noncomputable def numVar_o0 : List StSh := [⟨.exit 0, [0, 3], (.cons (.int .u64) (.cons (.msw 0 0) .nil)), (.cons (.bts 0 false false false (.int .u8)) .nil)⟩]
noncomputable def numVar_L0 (n : Nat) : LEntry := ⟨numVar_h0, numVar_o0, numVar_W0 n⟩
noncomputable def numVar_res : List StSh := [⟨.ret, [0], (.cons (.msw 0 0) .nil), (.cons (.bts 0 false false false (.int .u8)) .nil)⟩]
noncomputable def numVar_tbl (n : Nat) : FuncId → List Entry := fun f => []
noncomputable def numVar_loops (n : Nat) : Nat → Option LEntry := fun f => bif Nat.beq f 0 then some (numVar_L0 n) else none
theorem numVar_r0 (n : Nat) (v_0 : Int) (m0 : DC) : roundK (real _) tab (numVar_tbl n) (numVar_loops n) numVar_an [] numVar_l0 0 [0, 3] numVar_h0 numVar_o0 (v_0, m0) some = numVar_B0 n v_0 m0 := by kernel_rfl
theorem numVar_f0 (n : Nat) : LoopFact tab (numVar_tbl n) (numVar_loops n) numVar_an [] n 0 numVar_l0 (numVar_L0 n) := ⟨[0, 3], fun s => numVar_B0 n s.1 s.2, by kernel_rfl, by kernel_rfl, fun s => rfl, fun s => numVar_r0 n s.1 s.2⟩
theorem numVar_run (n : Nat) (v_0 : Int) : funD (real _) tab (numVar_tbl n) (numVar_loops n) numVar_an Try.f95 numVar_a numVar_res v_0 some = numVar n v_0 := by kernel_rfl
noncomputable def numVar_E (n : Nat) : Entry := ⟨numVar_a, numVar_res, fun d => numVar n d⟩
theorem numVar_ok (n : Nat) : EOK Try.prog 95 (numVar_E n) :=
  EOK.of prog_names prog_mixed tab_ok (tbl := numVar_tbl n) (loops := numVar_loops n) (an := numVar_an) (old := []) (n := n) (c := numVar_c) (fn := Try.f95) TblOK.nil (by kernel_rfl) (by kernel_rfl) (by kernel_rfl) (by kernel_rfl) (fun d => by kernel_rfl) (LT.cons (by kernel_rfl) (numVar_f0 n) LT.nil) (fun a => numVar_run n a)
noncomputable def instPut_h0 : List StSh := [⟨.normal, [4, 39, 40, 41], (.cons (.msw 0 0) (.cons (.ms 1 0) (.cons (.int .i64) (.cons (.int .i64) .nil)))), (.cons (.bts 0 false false false (.int .u8)) (.cons (.bcells 0 false 1 (.cons (.int .i64) (.cons (.int .i64) .nil))) .nil))⟩]
noncomputable def instPut_o0 : List StSh := [⟨.exit 0, [4], (.cons (.msw 0 0) .nil), (.cons (.bts 0 false false false (.int .u8)) (.cons (.bcells 0 false 1 (.cons (.int .i64) (.cons (.int .i64) .nil))) .nil))⟩]
noncomputable def instPut_L0 (n : Nat) : LEntry := ⟨instPut_h0, instPut_o0, instPut_W0 n⟩
noncomputable def instPut_res : List StSh := [⟨.ret, [0], (.cons (.sl false false (.int .u8)) .nil), .nil⟩]
noncomputable def instPut_tbl (n : Nat) : FuncId → List Entry := fun f => bif Nat.beq f 116 then [instArgs_E n] else bif Nat.beq f 117 then [instMay_E n] else bif Nat.beq f 95 then [numVar_E n] else []
noncomputable def instPut_loops (n : Nat) : Nat → Option LEntry := fun f => bif Nat.beq f 0 then some (instPut_L0 n) else none
theorem instPut_r0 (n : Nat) (t39 : Nat × Nat) (t40 : Int) (t41 : Int) (m0 : DC) (m1 : Int) (m1_1 : Int) : roundK (real _) tab (instPut_tbl n) (instPut_loops n) instPut_an [] instPut_l0 0 [4, 39, 40, 41] instPut_h0 instPut_o0 ((t39, (t40, t41)), (m0, (m1, m1_1))) some = instPut_B0 n t39 t40 t41 m0 m1 m1_1 := by kernel_rfl
theorem instPut_f0 (n : Nat) : LoopFact tab (instPut_tbl n) (instPut_loops n) instPut_an [] n 0 instPut_l0 (instPut_L0 n) := ⟨[4, 39, 40, 41], fun s => instPut_B0 n s.1.1 s.1.2.1 s.1.2.2 s.2.1 s.2.2.1 s.2.2.2, by kernel_rfl, by kernel_rfl, fun s => rfl, fun s => instPut_r0 n s.1.1 s.1.2.1 s.1.2.2 s.2.1 s.2.2.1 s.2.2.2⟩
theorem instPut_run (n : Nat) (i_0 : Int) (i_0_1 : Int) (i_0_2 : Int) : funDS (real _) tab (instPut_tbl n) (instPut_loops n) instPut_an Try.f99 0 instPut_a instPut_res (i_0, (i_0_1, i_0_2)) some = instPut n i_0 i_0_1 i_0_2 := by kernel_rfl
noncomputable def instPut_E (n : Nat) : Entry := ⟨instPut_a, instPut_res, fun d => instPut n d.1 d.2.1 d.2.2⟩
theorem instPut_ok (n : Nat) : EOK Try.prog 99 (instPut_E n) :=
  EOK.ofS prog_names prog_mixed tab_ok (tbl := instPut_tbl n) (loops := instPut_loops n) (an := instPut_an) (old := []) (n := n) (c := instPut_c) (fn := Try.f99) (TblOK.cons (AllE.cons (instArgs_ok n) AllE.nil) (TblOK.cons (AllE.cons (instMay_ok n) AllE.nil) (TblOK.cons (AllE.cons (numVar_ok n) AllE.nil) TblOK.nil))) (by kernel_rfl) (by kernel_rfl) (by kernel_rfl) (by kernel_rfl) (fun d => by kernel_rfl) (LT.cons (by kernel_rfl) (instPut_f0 n) LT.nil) (fun a => instPut_run n a.1 a.2.1 a.2.2)
noncomputable def moduleFitFunc1_res : List StSh := [⟨.ret, [0], (.cons .bool .nil), .nil⟩]
noncomputable def moduleFitFunc1_tbl (n : Nat) : FuncId → List Entry := fun f => bif Nat.beq f 99 then [instPut_E n] else []
noncomputable def moduleFitFunc1_loops (n : Nat) : Nat → Option LEntry := fun f => none
theorem moduleFitFunc1_run (n : Nat) (i_0 : Int) (i_0_1 : Int) (i_0_2 : Int) : funDS (real _) tab (moduleFitFunc1_tbl n) (moduleFitFunc1_loops n) moduleFitFunc1_an Try.f114 0 moduleFitFunc1_a moduleFitFunc1_res (i_0, (i_0_1, i_0_2)) some = moduleFitFunc1 n i_0 i_0_1 i_0_2 := by kernel_rfl
noncomputable def moduleFitFunc1_E (n : Nat) : Entry := ⟨moduleFitFunc1_a, moduleFitFunc1_res, fun d => moduleFitFunc1 n d.1 d.2.1 d.2.2⟩
theorem moduleFitFunc1_ok (n : Nat) : EOK Try.prog 114 (moduleFitFunc1_E n) :=
  EOK.ofS prog_names prog_mixed tab_ok (tbl := moduleFitFunc1_tbl n) (loops := moduleFitFunc1_loops n) (an := moduleFitFunc1_an) (old := []) (n := n) (c := moduleFitFunc1_c) (fn := Try.f114) (TblOK.cons (AllE.cons (instPut_ok n) AllE.nil) TblOK.nil) (by kernel_rfl) (by kernel_rfl) (by kernel_rfl) (by kernel_rfl) (fun d => by kernel_rfl) LT.nil (fun a => moduleFitFunc1_run n a.1 a.2.1 a.2.2)
noncomputable def IndexFuncInstr_h0 : List StSh := [⟨.normal, [0, 1, 7, 8], (.cons (.sl true true yE) (.cons (.fn 114 .nil .nil) (.cons (.int .i64) (.cons (.int .i64) .nil)))), .nil⟩]
noncomputable def IndexFuncInstr_o0 : List StSh := [⟨.ret, [4], (.cons (.int .i64) .nil), .nil⟩, ⟨.exit 0, [], .nil, .nil⟩]
noncomputable def IndexFuncInstr_L0 (n : Nat) : LEntry := ⟨IndexFuncInstr_h0, IndexFuncInstr_o0, IndexFuncInstr_W0 n⟩
noncomputable def IndexFuncInstr_res : List StSh := [⟨.ret, [0], (.cons (.int .i64) .nil), .nil⟩]
noncomputable def IndexFuncInstr_tbl (n : Nat) : FuncId → List Entry := fun f => bif Nat.beq f 114 then [moduleFitFunc1_E n] else []
noncomputable def IndexFuncInstr_loops (n : Nat) : Nat → Option LEntry := fun f => bif Nat.beq f 0 then some (IndexFuncInstr_L0 n) else none
theorem IndexFuncInstr_r0 (n : Nat) (s_0 : DB) (t7 : Int) (t8 : Int) : roundK (real _) tab (IndexFuncInstr_tbl n) (IndexFuncInstr_loops n) IndexFuncInstr_an [] IndexFuncInstr_l0 0 [0, 1, 7, 8] IndexFuncInstr_h0 IndexFuncInstr_o0 (s_0, (t7, t8)) some = IndexFuncInstr_B0 n s_0 t7 t8 := by kernel_rfl
theorem IndexFuncInstr_f0 (n : Nat) : LoopFact tab (IndexFuncInstr_tbl n) (IndexFuncInstr_loops n) IndexFuncInstr_an [] n 0 IndexFuncInstr_l0 (IndexFuncInstr_L0 n) := ⟨[0, 1, 7, 8], fun s => IndexFuncInstr_B0 n s.1 s.2.1 s.2.2, by kernel_rfl, by kernel_rfl, fun s => rfl, fun s => IndexFuncInstr_r0 n s.1 s.2.1 s.2.2⟩
theorem IndexFuncInstr_run (n : Nat) (s_0 : DB) : funDS (real _) tab (IndexFuncInstr_tbl n) (IndexFuncInstr_loops n) IndexFuncInstr_an Try.f82 0 IndexFuncInstr_a IndexFuncInstr_res s_0 some = IndexFuncInstr n s_0 := by kernel_rfl
noncomputable def IndexFuncInstr_E (n : Nat) : Entry := ⟨IndexFuncInstr_a, IndexFuncInstr_res, fun d => IndexFuncInstr n d⟩
theorem IndexFuncInstr_ok (n : Nat) : EOK Try.prog 82 (IndexFuncInstr_E n) :=
  EOK.ofS prog_names prog_mixed tab_ok (tbl := IndexFuncInstr_tbl n) (loops := IndexFuncInstr_loops n) (an := IndexFuncInstr_an) (old := []) (n := n) (c := IndexFuncInstr_c) (fn := Try.f82) (TblOK.cons (AllE.cons (moduleFitFunc1_ok n) AllE.nil) TblOK.nil) (by kernel_rfl) (by kernel_rfl) (by kernel_rfl) (by kernel_rfl) (fun d => by kernel_rfl) (LT.cons (by kernel_rfl) (IndexFuncInstr_f0 n) LT.nil) (fun a => IndexFuncInstr_run n a)
noncomputable def ContainsFuncInstr_res : List StSh := [⟨.ret, [0], (.cons .bool .nil), .nil⟩]
noncomputable def ContainsFuncInstr_tbl (n : Nat) : FuncId → List Entry := fun f => bif Nat.beq f 82 then [IndexFuncInstr_E n] else []
noncomputable def ContainsFuncInstr_loops (n : Nat) : Nat → Option LEntry := fun f => none
theorem ContainsFuncInstr_run (n : Nat) (s_0 : DB) : funDS (real _) tab (ContainsFuncInstr_tbl n) (ContainsFuncInstr_loops n) ContainsFuncInstr_an Try.f30 0 ContainsFuncInstr_a ContainsFuncInstr_res s_0 some = ContainsFuncInstr n s_0 := by kernel_rfl
noncomputable def ContainsFuncInstr_E (n : Nat) : Entry := ⟨ContainsFuncInstr_a, ContainsFuncInstr_res, fun d => ContainsFuncInstr n d⟩
theorem ContainsFuncInstr_ok (n : Nat) : EOK Try.prog 30 (ContainsFuncInstr_E n) :=
  EOK.ofS prog_names prog_mixed tab_ok (tbl := ContainsFuncInstr_tbl n) (loops := ContainsFuncInstr_loops n) (an := ContainsFuncInstr_an) (old := []) (n := n) (c := ContainsFuncInstr_c) (fn := Try.f30) (TblOK.cons (AllE.cons (IndexFuncInstr_ok n) AllE.nil) TblOK.nil) (by kernel_rfl) (by kernel_rfl) (by kernel_rfl) (by kernel_rfl) (fun d => by kernel_rfl) LT.nil (fun a => ContainsFuncInstr_run n a)
noncomputable def moduleFitFunc_res : List StSh := [⟨.ret, [0], (.cons .bool .nil), .nil⟩]
noncomputable def moduleFitFunc_tbl (n : Nat) : FuncId → List Entry := fun f => bif Nat.beq f 87 then [moduleGood_E n] else bif Nat.beq f 92 then [kindGood_E n] else bif Nat.beq f 30 then [ContainsFuncInstr_E n] else []
noncomputable def moduleFitFunc_loops (n : Nat) : Nat → Option LEntry := fun f => none
theorem moduleFitFunc_run (n : Nat) (f_0 : DA) (f_0_1 : Int) (f_0_2 : Int) (f_0_3 : DA) (f_0_4 : DB) (recs_1 : Int) : funDS (real _) tab (moduleFitFunc_tbl n) (moduleFitFunc_loops n) moduleFitFunc_an Try.f90 0 moduleFitFunc_a moduleFitFunc_res ((f_0, (f_0_1, (f_0_2, (f_0_3, f_0_4)))), recs_1) some = moduleFitFunc n f_0 f_0_1 f_0_2 f_0_3 f_0_4 recs_1 := by kernel_rfl
noncomputable def moduleFitFunc_E (n : Nat) : Entry := ⟨moduleFitFunc_a, moduleFitFunc_res, fun d => moduleFitFunc n d.1.1 d.1.2.1 d.1.2.2.1 d.1.2.2.2.1 d.1.2.2.2.2 d.2⟩
theorem moduleFitFunc_ok (n : Nat) : EOK Try.prog 90 (moduleFitFunc_E n) :=
  EOK.ofS prog_names prog_mixed tab_ok (tbl := moduleFitFunc_tbl n) (loops := moduleFitFunc_loops n) (an := moduleFitFunc_an) (old := []) (n := n) (c := moduleFitFunc_c) (fn := Try.f90) (TblOK.cons (AllE.cons (moduleGood_ok n) AllE.nil) (TblOK.cons (AllE.cons (kindGood_ok n) AllE.nil) (TblOK.cons (AllE.cons (ContainsFuncInstr_ok n) AllE.nil) TblOK.nil))) (by kernel_rfl) (by kernel_rfl) (by kernel_rfl) (by kernel_rfl) (fun d => by kernel_rfl) LT.nil (fun a => moduleFitFunc_run n a.1.1 a.1.2.1 a.1.2.2.1 a.1.2.2.2.1 a.1.2.2.2.2 a.2)
noncomputable def moduleFits2_res : List StSh := [⟨.ret, [0], (.cons .bool .nil), (.cons (.bcells 0 false 1 (.cons (.int .i64) .nil)) .nil)⟩]
noncomputable def moduleFits2_tbl (n : Nat) : FuncId → List Entry := fun f => bif Nat.beq f 90 then [moduleFitFunc_E n] else []
noncomputable def moduleFits2_loops (n : Nat) : Nat → Option LEntry := fun f => none
theorem moduleFits2_run (n : Nat) (f_0 : DA) (f_0_1 : Int) (f_0_2 : Int) (f_0_3 : DA) (f_0_4 : DB) (m0 : Int) : funDS (real _) tab (moduleFits2_tbl n) (moduleFits2_loops n) moduleFits2_an Try.f89 1 moduleFits2_a moduleFits2_res ((f_0, (f_0_1, (f_0_2, (f_0_3, f_0_4)))), m0) some = moduleFits2 n f_0 f_0_1 f_0_2 f_0_3 f_0_4 m0 := by kernel_rfl
noncomputable def moduleFits2_E (n : Nat) : Entry := ⟨moduleFits2_a, moduleFits2_res, fun d => moduleFits2 n d.1.1 d.1.2.1 d.1.2.2.1 d.1.2.2.2.1 d.1.2.2.2.2 d.2⟩
theorem moduleFits2_ok (n : Nat) : EOK Try.prog 89 (moduleFits2_E n) :=
  EOK.ofS prog_names prog_mixed tab_ok (tbl := moduleFits2_tbl n) (loops := moduleFits2_loops n) (an := moduleFits2_an) (old := [some true]) (n := n) (c := moduleFits2_c) (fn := Try.f89) (TblOK.cons (AllE.cons (moduleFitFunc_ok n) AllE.nil) TblOK.nil) (by kernel_rfl) (by kernel_rfl) (by kernel_rfl) (by kernel_rfl) (fun d => by kernel_rfl) LT.nil (fun a => moduleFits2_run n a.1.1 a.1.2.1 a.1.2.2.1 a.1.2.2.2.1 a.1.2.2.2.2 a.2)
noncomputable def IndexFuncFunc_h0 : List StSh := [⟨.normal, [0, 1, 7, 8], (.cons (.sl true true yB) (.cons (.fn 89 .nil (.cons (.ptr 0 0 0 0) .nil)) (.cons (.int .i64) (.cons (.int .i64) .nil)))), (.cons (.bcells 0 false 1 (.cons (.int .i64) .nil)) .nil)⟩]
noncomputable def IndexFuncFunc_o0 : List StSh := [⟨.ret, [4], (.cons (.int .i64) .nil), (.cons (.bcells 0 false 1 (.cons (.int .i64) .nil)) .nil)⟩, ⟨.exit 0, [], .nil, (.cons (.bcells 0 false 1 (.cons (.int .i64) .nil)) .nil)⟩]
noncomputable def IndexFuncFunc_L0 (n : Nat) : LEntry := ⟨IndexFuncFunc_h0, IndexFuncFunc_o0, IndexFuncFunc_W0 n⟩
noncomputable def IndexFuncFunc_res : List StSh := [⟨.ret, [0], (.cons (.int .i64) .nil), (.cons (.bcells 0 false 1 (.cons (.int .i64) .nil)) .nil)⟩]
noncomputable def IndexFuncFunc_tbl (n : Nat) : FuncId → List Entry := fun f => bif Nat.beq f 89 then [moduleFits2_E n] else []
noncomputable def IndexFuncFunc_loops (n : Nat) : Nat → Option LEntry := fun f => bif Nat.beq f 0 then some (IndexFuncFunc_L0 n) else none
theorem IndexFuncFunc_r0 (n : Nat) (s_0 : DH) (t7 : Int) (t8 : Int) (m0 : Int) : roundK (real _) tab (IndexFuncFunc_tbl n) (IndexFuncFunc_loops n) IndexFuncFunc_an [some true] IndexFuncFunc_l0 0 [0, 1, 7, 8] IndexFuncFunc_h0 IndexFuncFunc_o0 ((s_0, (t7, t8)), m0) some = IndexFuncFunc_B0 n s_0 t7 t8 m0 := by kernel_rfl
theorem IndexFuncFunc_f0 (n : Nat) : LoopFact tab (IndexFuncFunc_tbl n) (IndexFuncFunc_loops n) IndexFuncFunc_an [some true] n 0 IndexFuncFunc_l0 (IndexFuncFunc_L0 n) := ⟨[0, 1, 7, 8], fun s => IndexFuncFunc_B0 n s.1.1 s.1.2.1 s.1.2.2 s.2, by kernel_rfl, by kernel_rfl, fun s => rfl, fun s => IndexFuncFunc_r0 n s.1.1 s.1.2.1 s.1.2.2 s.2⟩
theorem IndexFuncFunc_run (n : Nat) (s_0 : DH) (m0 : Int) : funDS (real _) tab (IndexFuncFunc_tbl n) (IndexFuncFunc_loops n) IndexFuncFunc_an Try.f113 1 IndexFuncFunc_a IndexFuncFunc_res (s_0, m0) some = IndexFuncFunc n s_0 m0 := by kernel_rfl
noncomputable def IndexFuncFunc_E (n : Nat) : Entry := ⟨IndexFuncFunc_a, IndexFuncFunc_res, fun d => IndexFuncFunc n d.1 d.2⟩
theorem IndexFuncFunc_ok (n : Nat) : EOK Try.prog 113 (IndexFuncFunc_E n) :=
  EOK.ofS prog_names prog_mixed tab_ok (tbl := IndexFuncFunc_tbl n) (loops := IndexFuncFunc_loops n) (an := IndexFuncFunc_an) (old := [some true]) (n := n) (c := IndexFuncFunc_c) (fn := Try.f113) (TblOK.cons (AllE.cons (moduleFits2_ok n) AllE.nil) TblOK.nil) (by kernel_rfl) (by kernel_rfl) (by kernel_rfl) (by kernel_rfl) (fun d => by kernel_rfl) (LT.cons (by kernel_rfl) (IndexFuncFunc_f0 n) LT.nil) (fun a => IndexFuncFunc_run n a.1 a.2)
noncomputable def ContainsFuncFunc_res : List StSh := [⟨.ret, [0], (.cons .bool .nil), (.cons (.bcells 0 false 1 (.cons (.int .i64) .nil)) .nil)⟩]
noncomputable def ContainsFuncFunc_tbl (n : Nat) : FuncId → List Entry := fun f => bif Nat.beq f 113 then [IndexFuncFunc_E n] else []
noncomputable def ContainsFuncFunc_loops (n : Nat) : Nat → Option LEntry := fun f => none
theorem ContainsFuncFunc_run (n : Nat) (s_0 : DH) (m0 : Int) : funDS (real _) tab (ContainsFuncFunc_tbl n) (ContainsFuncFunc_loops n) ContainsFuncFunc_an Try.f88 1 ContainsFuncFunc_a ContainsFuncFunc_res (s_0, m0) some = ContainsFuncFunc n s_0 m0 := by kernel_rfl
noncomputable def ContainsFuncFunc_E (n : Nat) : Entry := ⟨ContainsFuncFunc_a, ContainsFuncFunc_res, fun d => ContainsFuncFunc n d.1 d.2⟩
theorem ContainsFuncFunc_ok (n : Nat) : EOK Try.prog 88 (ContainsFuncFunc_E n) :=
  EOK.ofS prog_names prog_mixed tab_ok (tbl := ContainsFuncFunc_tbl n) (loops := ContainsFuncFunc_loops n) (an := ContainsFuncFunc_an) (old := [some true]) (n := n) (c := ContainsFuncFunc_c) (fn := Try.f88) (TblOK.cons (AllE.cons (IndexFuncFunc_ok n) AllE.nil) TblOK.nil) (by kernel_rfl) (by kernel_rfl) (by kernel_rfl) (by kernel_rfl) (fun d => by kernel_rfl) LT.nil (fun a => ContainsFuncFunc_run n a.1 a.2)
noncomputable def ContainsFuncImport_an : Ann := {}
noncomputable def ContainsFuncImport_c : Code := (match Try.f36.body with | some c => c | none => .skip)
noncomputable def ContainsFuncImport_a : StSh := ⟨.normal, [0, 1], (.cons (.sl true true yC) (.cons (.fn 91 .nil (.cons (.ptr 0 0 0 0) .nil)) .nil)), (.cons (.bcells 0 false 1 (.cons (.int .i64) .nil)) .nil)⟩
noncomputable def IndexFuncImport_an : Ann := { live := [(0, [0, 1, 7, 8])] }
noncomputable def IndexFuncImport_c : Code := (match Try.f84.body with | some c => c | none => .skip)
noncomputable def IndexFuncImport_l0 : Code := (match assoc 0 (loopsIn IndexFuncImport_c 0) with | some c => c | none => .skip)
noncomputable def IndexFuncImport_a : StSh := ⟨.normal, [0, 1], (.cons (.sl true true yC) (.cons (.fn 91 .nil (.cons (.ptr 0 0 0 0) .nil)) .nil)), (.cons (.bcells 0 false 1 (.cons (.int .i64) .nil)) .nil)⟩
noncomputable def moduleFits3_an : Ann := {}
noncomputable def moduleFits3_c : Code := (match Try.f91.body with | some c => c | none => .skip)
noncomputable def moduleFits3_a : StSh := ⟨.normal, [0, 1], (.cons (.agg (.cons (.sl true true yD) (.cons (.int .i64) (.cons (.int .i64) .nil)))) (.cons (.ptr 0 0 0 0) .nil)), (.cons (.bcells 0 false 1 (.cons (.int .i64) .nil)) .nil)⟩
noncomputable def moduleFits3_res : List StSh := [⟨.ret, [0], (.cons .bool .nil), (.cons (.bcells 0 false 1 (.cons (.int .i64) .nil)) .nil)⟩]
noncomputable def moduleFits3_tbl (n : Nat) : FuncId → List Entry := fun f => bif Nat.beq f 87 then [moduleGood_E n] else bif Nat.beq f 92 then [kindGood_E n] else []
noncomputable def moduleFits3_loops (n : Nat) : Nat → Option LEntry := fun f => none
theorem moduleFits3_run (n : Nat) (i_0 : DA) (i_0_1 : Int) (i_0_2 : Int) (m0 : Int) : funDS (real _) tab (moduleFits3_tbl n) (moduleFits3_loops n) moduleFits3_an Try.f91 1 moduleFits3_a moduleFits3_res ((i_0, (i_0_1, i_0_2)), m0) some = moduleFits3 n i_0 i_0_1 i_0_2 m0 := by kernel_rfl
noncomputable def moduleFits3_E (n : Nat) : Entry := ⟨moduleFits3_a, moduleFits3_res, fun d => moduleFits3 n d.1.1 d.1.2.1 d.1.2.2 d.2⟩
theorem moduleFits3_ok (n : Nat) : EOK Try.prog 91 (moduleFits3_E n) :=
  EOK.ofS prog_names prog_mixed tab_ok (tbl := moduleFits3_tbl n) (loops := moduleFits3_loops n) (an := moduleFits3_an) (old := [some true]) (n := n) (c := moduleFits3_c) (fn := Try.f91) (TblOK.cons (AllE.cons (moduleGood_ok n) AllE.nil) (TblOK.cons (AllE.cons (kindGood_ok n) AllE.nil) TblOK.nil)) (by kernel_rfl) (by kernel_rfl) (by kernel_rfl) (by kernel_rfl) (fun d => by kernel_rfl) LT.nil (fun a => moduleFits3_run n a.1.1 a.1.2.1 a.1.2.2 a.2)
noncomputable def IndexFuncImport_h0 : List StSh := [⟨.normal, [0, 1, 7, 8], (.cons (.sl true true yC) (.cons (.fn 91 .nil (.cons (.ptr 0 0 0 0) .nil)) (.cons (.int .i64) (.cons (.int .i64) .nil)))), (.cons (.bcells 0 false 1 (.cons (.int .i64) .nil)) .nil)⟩]
noncomputable def IndexFuncImport_o0 : List StSh := [⟨.ret, [4], (.cons (.int .i64) .nil), (.cons (.bcells 0 false 1 (.cons (.int .i64) .nil)) .nil)⟩, ⟨.exit 0, [], .nil, (.cons (.bcells 0 false 1 (.cons (.int .i64) .nil)) .nil)⟩]
noncomputable def IndexFuncImport_L0 (n : Nat) : LEntry := ⟨IndexFuncImport_h0, IndexFuncImport_o0, IndexFuncImport_W0 n⟩
noncomputable def IndexFuncImport_res : List StSh := [⟨.ret, [0], (.cons (.int .i64) .nil), (.cons (.bcells 0 false 1 (.cons (.int .i64) .nil)) .nil)⟩]
noncomputable def IndexFuncImport_tbl (n : Nat) : FuncId → List Entry := fun f => bif Nat.beq f 91 then [moduleFits3_E n] else []
noncomputable def IndexFuncImport_loops (n : Nat) : Nat → Option LEntry := fun f => bif Nat.beq f 0 then some (IndexFuncImport_L0 n) else none
theorem IndexFuncImport_r0 (n : Nat) (s_0 : DI) (t7 : Int) (t8 : Int) (m0 : Int) : roundK (real _) tab (IndexFuncImport_tbl n) (IndexFuncImport_loops n) IndexFuncImport_an [some true] IndexFuncImport_l0 0 [0, 1, 7, 8] IndexFuncImport_h0 IndexFuncImport_o0 ((s_0, (t7, t8)), m0) some = IndexFuncImport_B0 n s_0 t7 t8 m0 := by kernel_rfl
theorem IndexFuncImport_f0 (n : Nat) : LoopFact tab (IndexFuncImport_tbl n) (IndexFuncImport_loops n) IndexFuncImport_an [some true] n 0 IndexFuncImport_l0 (IndexFuncImport_L0 n) := ⟨[0, 1, 7, 8], fun s => IndexFuncImport_B0 n s.1.1 s.1.2.1 s.1.2.2 s.2, by kernel_rfl, by kernel_rfl, fun s => rfl, fun s => IndexFuncImport_r0 n s.1.1 s.1.2.1 s.1.2.2 s.2⟩
theorem IndexFuncImport_run (n : Nat) (s_0 : DI) (m0 : Int) : funDS (real _) tab (IndexFuncImport_tbl n) (IndexFuncImport_loops n) IndexFuncImport_an Try.f84 1 IndexFuncImport_a IndexFuncImport_res (s_0, m0) some = IndexFuncImport n s_0 m0 := by kernel_rfl
noncomputable def IndexFuncImport_E (n : Nat) : Entry := ⟨IndexFuncImport_a, IndexFuncImport_res, fun d => IndexFuncImport n d.1 d.2⟩
theorem IndexFuncImport_ok (n : Nat) : EOK Try.prog 84 (IndexFuncImport_E n) :=
  EOK.ofS prog_names prog_mixed tab_ok (tbl := IndexFuncImport_tbl n) (loops := IndexFuncImport_loops n) (an := IndexFuncImport_an) (old := [some true]) (n := n) (c := IndexFuncImport_c) (fn := Try.f84) (TblOK.cons (AllE.cons (moduleFits3_ok n) AllE.nil) TblOK.nil) (by kernel_rfl) (by kernel_rfl) (by kernel_rfl) (by kernel_rfl) (fun d => by kernel_rfl) (LT.cons (by kernel_rfl) (IndexFuncImport_f0 n) LT.nil) (fun a => IndexFuncImport_run n a.1 a.2)
noncomputable def ContainsFuncImport_res : List StSh := [⟨.ret, [0], (.cons .bool .nil), (.cons (.bcells 0 false 1 (.cons (.int .i64) .nil)) .nil)⟩]
noncomputable def ContainsFuncImport_tbl (n : Nat) : FuncId → List Entry := fun f => bif Nat.beq f 84 then [IndexFuncImport_E n] else []
noncomputable def ContainsFuncImport_loops (n : Nat) : Nat → Option LEntry := fun f => none
theorem ContainsFuncImport_run (n : Nat) (s_0 : DI) (m0 : Int) : funDS (real _) tab (ContainsFuncImport_tbl n) (ContainsFuncImport_loops n) ContainsFuncImport_an Try.f36 1 ContainsFuncImport_a ContainsFuncImport_res (s_0, m0) some = ContainsFuncImport n s_0 m0 := by kernel_rfl
noncomputable def ContainsFuncImport_E (n : Nat) : Entry := ⟨ContainsFuncImport_a, ContainsFuncImport_res, fun d => ContainsFuncImport n d.1 d.2⟩
theorem ContainsFuncImport_ok (n : Nat) : EOK Try.prog 36 (ContainsFuncImport_E n) :=
  EOK.ofS prog_names prog_mixed tab_ok (tbl := ContainsFuncImport_tbl n) (loops := ContainsFuncImport_loops n) (an := ContainsFuncImport_an) (old := [some true]) (n := n) (c := ContainsFuncImport_c) (fn := Try.f36) (TblOK.cons (AllE.cons (IndexFuncImport_ok n) AllE.nil) TblOK.nil) (by kernel_rfl) (by kernel_rfl) (by kernel_rfl) (by kernel_rfl) (fun d => by kernel_rfl) LT.nil (fun a => ContainsFuncImport_run n a.1 a.2)
noncomputable def ContainsFuncString_an : Ann := {}
noncomputable def ContainsFuncString_c : Code := (match Try.f93.body with | some c => c | none => .skip)
noncomputable def ContainsFuncString_a : StSh := ⟨.normal, [0, 1], (.cons (.sl true false .str) (.cons (.fn 94 .nil .nil) .nil)), .nil⟩
noncomputable def IndexFuncString_an : Ann := { live := [(0, [0, 1, 7, 8])] }
noncomputable def IndexFuncString_c : Code := (match Try.f115.body with | some c => c | none => .skip)
noncomputable def IndexFuncString_l0 : Code := (match assoc 0 (loopsIn IndexFuncString_c 0) with | some c => c | none => .skip)
noncomputable def IndexFuncString_a : StSh := ⟨.normal, [0, 1], (.cons (.sl true false .str) (.cons (.fn 94 .nil .nil) .nil)), .nil⟩
noncomputable def moduleFits4_an : Ann := {}
noncomputable def moduleFits4_c : Code := (match Try.f94.body with | some c => c | none => .skip)
noncomputable def moduleFits4_a : StSh := ⟨.normal, [0], (.cons .str .nil), .nil⟩
noncomputable def moduleFits4_res : List StSh := [⟨.ret, [0], (.cons .bool .nil), .nil⟩]
noncomputable def moduleFits4_tbl (n : Nat) : FuncId → List Entry := fun f => []
noncomputable def moduleFits4_loops (n : Nat) : Nat → Option LEntry := fun f => none
theorem moduleFits4_run (n : Nat) (s_0 : ByteArray) : funDS (real _) tab (moduleFits4_tbl n) (moduleFits4_loops n) moduleFits4_an Try.f94 0 moduleFits4_a moduleFits4_res s_0 some = moduleFits4 n s_0 := by kernel_rfl
noncomputable def moduleFits4_E (n : Nat) : Entry := ⟨moduleFits4_a, moduleFits4_res, fun d => moduleFits4 n d⟩
theorem moduleFits4_ok (n : Nat) : EOK Try.prog 94 (moduleFits4_E n) :=
  EOK.ofS prog_names prog_mixed tab_ok (tbl := moduleFits4_tbl n) (loops := moduleFits4_loops n) (an := moduleFits4_an) (old := []) (n := n) (c := moduleFits4_c) (fn := Try.f94) TblOK.nil (by kernel_rfl) (by kernel_rfl) (by kernel_rfl) (by kernel_rfl) (fun d => by kernel_rfl) LT.nil (fun a => moduleFits4_run n a)
noncomputable def IndexFuncString_h0 : List StSh := [⟨.normal, [0, 1, 7, 8], (.cons (.sl true false .str) (.cons (.fn 94 .nil .nil) (.cons (.int .i64) (.cons (.int .i64) .nil)))), .nil⟩]
noncomputable def IndexFuncString_o0 : List StSh := [⟨.ret, [4], (.cons (.int .i64) .nil), .nil⟩, ⟨.exit 0, [], .nil, .nil⟩]
noncomputable def IndexFuncString_L0 (n : Nat) : LEntry := ⟨IndexFuncString_h0, IndexFuncString_o0, IndexFuncString_W0 n⟩
noncomputable def IndexFuncString_res : List StSh := [⟨.ret, [0], (.cons (.int .i64) .nil), .nil⟩]
noncomputable def IndexFuncString_tbl (n : Nat) : FuncId → List Entry := fun f => bif Nat.beq f 94 then [moduleFits4_E n] else []
noncomputable def IndexFuncString_loops (n : Nat) : Nat → Option LEntry := fun f => bif Nat.beq f 0 then some (IndexFuncString_L0 n) else none
theorem IndexFuncString_r0 (n : Nat) (s_0 : DD) (t7 : Int) (t8 : Int) : roundK (real _) tab (IndexFuncString_tbl n) (IndexFuncString_loops n) IndexFuncString_an [] IndexFuncString_l0 0 [0, 1, 7, 8] IndexFuncString_h0 IndexFuncString_o0 (s_0, (t7, t8)) some = IndexFuncString_B0 n s_0 t7 t8 := by kernel_rfl
theorem IndexFuncString_f0 (n : Nat) : LoopFact tab (IndexFuncString_tbl n) (IndexFuncString_loops n) IndexFuncString_an [] n 0 IndexFuncString_l0 (IndexFuncString_L0 n) := ⟨[0, 1, 7, 8], fun s => IndexFuncString_B0 n s.1 s.2.1 s.2.2, by kernel_rfl, by kernel_rfl, fun s => rfl, fun s => IndexFuncString_r0 n s.1 s.2.1 s.2.2⟩
theorem IndexFuncString_run (n : Nat) (s_0 : DD) : funDS (real _) tab (IndexFuncString_tbl n) (IndexFuncString_loops n) IndexFuncString_an Try.f115 0 IndexFuncString_a IndexFuncString_res s_0 some = IndexFuncString n s_0 := by kernel_rfl
noncomputable def IndexFuncString_E (n : Nat) : Entry := ⟨IndexFuncString_a, IndexFuncString_res, fun d => IndexFuncString n d⟩
theorem IndexFuncString_ok (n : Nat) : EOK Try.prog 115 (IndexFuncString_E n) :=
  EOK.ofS prog_names prog_mixed tab_ok (tbl := IndexFuncString_tbl n) (loops := IndexFuncString_loops n) (an := IndexFuncString_an) (old := []) (n := n) (c := IndexFuncString_c) (fn := Try.f115) (TblOK.cons (AllE.cons (moduleFits4_ok n) AllE.nil) TblOK.nil) (by kernel_rfl) (by kernel_rfl) (by kernel_rfl) (by kernel_rfl) (fun d => by kernel_rfl) (LT.cons (by kernel_rfl) (IndexFuncString_f0 n) LT.nil) (fun a => IndexFuncString_run n a)
noncomputable def ContainsFuncString_res : List StSh := [⟨.ret, [0], (.cons .bool .nil), .nil⟩]
noncomputable def ContainsFuncString_tbl (n : Nat) : FuncId → List Entry := fun f => bif Nat.beq f 115 then [IndexFuncString_E n] else []
noncomputable def ContainsFuncString_loops (n : Nat) : Nat → Option LEntry := fun f => none
theorem ContainsFuncString_run (n : Nat) (s_0 : DD) : funDS (real _) tab (ContainsFuncString_tbl n) (ContainsFuncString_loops n) ContainsFuncString_an Try.f93 0 ContainsFuncString_a ContainsFuncString_res s_0 some = ContainsFuncString n s_0 := by kernel_rfl
noncomputable def ContainsFuncString_E (n : Nat) : Entry := ⟨ContainsFuncString_a, ContainsFuncString_res, fun d => ContainsFuncString n d⟩
theorem ContainsFuncString_ok (n : Nat) : EOK Try.prog 93 (ContainsFuncString_E n) :=
  EOK.ofS prog_names prog_mixed tab_ok (tbl := ContainsFuncString_tbl n) (loops := ContainsFuncString_loops n) (an := ContainsFuncString_an) (old := []) (n := n) (c := ContainsFuncString_c) (fn := Try.f93) (TblOK.cons (AllE.cons (IndexFuncString_ok n) AllE.nil) TblOK.nil) (by kernel_rfl) (by kernel_rfl) (by kernel_rfl) (by kernel_rfl) (fun d => by kernel_rfl) LT.nil (fun a => ContainsFuncString_run n a)
noncomputable def moduleFits_res : List StSh := [⟨.ret, [0], (.cons .bool .nil), .nil⟩]
noncomputable def moduleFits_tbl (n : Nat) : FuncId → List Entry := fun f => bif Nat.beq f 85 then [ContainsFuncTypeq1_E n] else bif Nat.beq f 88 then [ContainsFuncFunc_E n] else bif Nat.beq f 36 then [ContainsFuncImport_E n] else bif Nat.beq f 93 then [ContainsFuncString_E n] else []
noncomputable def moduleFits_loops (n : Nat) : Nat → Option LEntry := fun f => none
theorem moduleFits_run (n : Nat) (t0 : DG) (t0_1 : DH) (t0_2 : DI) (t0_3 : DC) (t0_4 : DD) : funDS (real _) tab (moduleFits_tbl n) (moduleFits_loops n) moduleFits_an Try.f39 0 moduleFits_a moduleFits_res (t0, (t0_1, (t0_2, (t0_3, t0_4)))) some = moduleFits n t0 t0_1 t0_2 t0_3 t0_4 := by kernel_rfl
noncomputable def moduleFits_E (n : Nat) : Entry := ⟨moduleFits_a, moduleFits_res, fun d => moduleFits n d.1 d.2.1 d.2.2.1 d.2.2.2.1 d.2.2.2.2⟩
theorem moduleFits_ok (n : Nat) : EOK Try.prog 39 (moduleFits_E n) :=
  EOK.ofS prog_names prog_mixed tab_ok (tbl := moduleFits_tbl n) (loops := moduleFits_loops n) (an := moduleFits_an) (old := []) (n := n) (c := moduleFits_c) (fn := Try.f39) (TblOK.cons (AllE.cons (ContainsFuncTypeq1_ok n) AllE.nil) (TblOK.cons (AllE.cons (ContainsFuncFunc_ok n) AllE.nil) (TblOK.cons (AllE.cons (ContainsFuncImport_ok n) AllE.nil) (TblOK.cons (AllE.cons (ContainsFuncString_ok n) AllE.nil) TblOK.nil)))) (by kernel_rfl) (by kernel_rfl) (by kernel_rfl) (by kernel_rfl) (fun d => by kernel_rfl) LT.nil (fun a => moduleFits_run n a.1 a.2.1 a.2.2.1 a.2.2.2.1 a.2.2.2.2)
noncomputable def moduleRecords_an : Ann := { live := [(0, [3, 14, 15, 16])] }
noncomputable def moduleRecords_c : Code := (match Try.f41.body with | some c => c | none => .skip)
noncomputable def moduleRecords_l0 : Code := (match assoc 0 (loopsIn moduleRecords_c 0) with | some c => c | none => .skip)
noncomputable def moduleRecords_a : StSh := ⟨.normal, [0], (.cons (.agg (.cons (.sl true false yA) (.cons (.sl true true yB) (.cons (.sl true true yC) (.cons (.sl true false (.int .u64)) (.cons (.sl true false .str) .nil)))))) .nil), .nil⟩
noncomputable def moduleWriterCount_an : Ann := { boxed := [(0, 8)] }
noncomputable def moduleWriterCount_c : Code := (match Try.f96.body with | some c => c | none => .skip)
noncomputable def moduleWriterCount_a : StSh := ⟨.normal, [0, 1], (.cons (.ptr 0 0 0 0) (.cons (.int .i64) .nil)), (.cons (.bcells 0 false 1 (.cons .nilS .nil)) .nil)⟩
noncomputable def moduleWriterCount_res : List StSh := [⟨.ret, [0], (.cons (.tup .nil) .nil), (.cons (.bcells 0 false 1 (.cons (.msw 1 0) .nil)) (.cons (.bts 0 false false false (.int .u8)) .nil))⟩]
noncomputable def moduleWriterCount_tbl (n : Nat) : FuncId → List Entry := fun f => bif Nat.beq f 95 then [numVar_E n] else []
noncomputable def moduleWriterCount_loops (n : Nat) : Nat → Option LEntry := fun f => none
theorem moduleWriterCount_run (n : Nat) (n_1 : Int) : funDS (real _) tab (moduleWriterCount_tbl n) (moduleWriterCount_loops n) moduleWriterCount_an Try.f96 1 moduleWriterCount_a moduleWriterCount_res n_1 some = moduleWriterCount n n_1 := by kernel_rfl
noncomputable def moduleWriterCount_E (n : Nat) : Entry := ⟨moduleWriterCount_a, moduleWriterCount_res, fun d => moduleWriterCount n d⟩
theorem moduleWriterCount_ok (n : Nat) : EOK Try.prog 96 (moduleWriterCount_E n) :=
  EOK.ofS prog_names prog_mixed tab_ok (tbl := moduleWriterCount_tbl n) (loops := moduleWriterCount_loops n) (an := moduleWriterCount_an) (old := [some true]) (n := n) (c := moduleWriterCount_c) (fn := Try.f96) (TblOK.cons (AllE.cons (numVar_ok n) AllE.nil) TblOK.nil) (by kernel_rfl) (by kernel_rfl) (by kernel_rfl) (by kernel_rfl) (fun d => by kernel_rfl) LT.nil (fun a => moduleWriterCount_run n a)
noncomputable def moduleWriterTypes_an : Ann := { live := [(0, [0, 10, 11, 12])], boxed := [(4, 7)] }
noncomputable def moduleWriterTypes_c : Code := (match Try.f97.body with | some c => c | none => .skip)
noncomputable def moduleWriterTypes_l0 : Code := (match assoc 0 (loopsIn moduleWriterTypes_c 0) with | some c => c | none => .skip)
noncomputable def moduleWriterTypes_a : StSh := ⟨.normal, [0, 1], (.cons (.ptr 0 0 0 0) (.cons (.sl true true yD) .nil)), (.cons (.bcells 0 false 1 (.cons (.msw 1 0) .nil)) (.cons (.bts 0 false false false (.int .u8)) .nil))⟩
noncomputable def moduleWriterCountv1_an : Ann := { boxed := [(0, 8)] }
noncomputable def moduleWriterCountv1_c : Code := (match Try.f96.body with | some c => c | none => .skip)
noncomputable def moduleWriterCountv1_a : StSh := ⟨.normal, [0, 1], (.cons (.ptr 0 0 0 0) (.cons (.int .i64) .nil)), (.cons (.bcells 0 false 1 (.cons (.msw 1 0) .nil)) (.cons (.bts 0 false false false (.int .u8)) .nil))⟩
noncomputable def moduleWriterCountv1_res : List StSh := [⟨.ret, [0], (.cons (.tup .nil) .nil), (.cons (.bcells 0 false 1 (.cons (.msw 1 0) .nil)) (.cons (.bts 0 false false false (.int .u8)) .nil))⟩]
noncomputable def moduleWriterCountv1_tbl (n : Nat) : FuncId → List Entry := fun f => bif Nat.beq f 95 then [numVar_E n] else []
noncomputable def moduleWriterCountv1_loops (n : Nat) : Nat → Option LEntry := fun f => none
theorem moduleWriterCountv1_run (n : Nat) (n_1 : Int) (m1 : DC) : funDS (real _) tab (moduleWriterCountv1_tbl n) (moduleWriterCountv1_loops n) moduleWriterCountv1_an Try.f96 2 moduleWriterCountv1_a moduleWriterCountv1_res (n_1, m1) some = moduleWriterCountv1 n n_1 m1 := by kernel_rfl
noncomputable def moduleWriterCountv1_E (n : Nat) : Entry := ⟨moduleWriterCountv1_a, moduleWriterCountv1_res, fun d => moduleWriterCountv1 n d.1 d.2⟩
theorem moduleWriterCountv1_ok (n : Nat) : EOK Try.prog 96 (moduleWriterCountv1_E n) :=
  EOK.ofS prog_names prog_mixed tab_ok (tbl := moduleWriterCountv1_tbl n) (loops := moduleWriterCountv1_loops n) (an := moduleWriterCountv1_an) (old := [some true, some false]) (n := n) (c := moduleWriterCountv1_c) (fn := Try.f96) (TblOK.cons (AllE.cons (numVar_ok n) AllE.nil) TblOK.nil) (by kernel_rfl) (by kernel_rfl) (by kernel_rfl) (by kernel_rfl) (fun d => by kernel_rfl) LT.nil (fun a => moduleWriterCountv1_run n a.1 a.2)
noncomputable def kindPut_an : Ann := { raw := [(1, 4)] }
noncomputable def kindPut_c : Code := (match Try.f98.body with | some c => c | none => .skip)
noncomputable def kindPut_a : StSh := ⟨.normal, [0], (.cons (.agg (.cons (.int .i64) (.cons (.int .i64) .nil))) .nil), .nil⟩
noncomputable def kindPut_res : List StSh := [⟨.ret, [0], (.cons (.sl false false (.int .u8)) .nil), .nil⟩]
noncomputable def kindPut_tbl (n : Nat) : FuncId → List Entry := fun f => bif Nat.beq f 95 then [numVar_E n] else []
noncomputable def kindPut_loops (n : Nat) : Nat → Option LEntry := fun f => none
theorem kindPut_run (n : Nat) (t_0 : Int) (t_0_1 : Int) : funDS (real _) tab (kindPut_tbl n) (kindPut_loops n) kindPut_an Try.f98 0 kindPut_a kindPut_res (t_0, t_0_1) some = kindPut n t_0 t_0_1 := by kernel_rfl
noncomputable def kindPut_E (n : Nat) : Entry := ⟨kindPut_a, kindPut_res, fun d => kindPut n d.1 d.2⟩
theorem kindPut_ok (n : Nat) : EOK Try.prog 98 (kindPut_E n) :=
  EOK.ofS prog_names prog_mixed tab_ok (tbl := kindPut_tbl n) (loops := kindPut_loops n) (an := kindPut_an) (old := []) (n := n) (c := kindPut_c) (fn := Try.f98) (TblOK.cons (AllE.cons (numVar_ok n) AllE.nil) TblOK.nil) (by kernel_rfl) (by kernel_rfl) (by kernel_rfl) (by kernel_rfl) (fun d => by kernel_rfl) LT.nil (fun a => kindPut_run n a.1 a.2)
noncomputable def moduleWriterTypes_h0 : List StSh := [⟨.normal, [0, 10, 11, 12], (.cons (.ptr 0 0 0 0) (.cons (.sl true true yD) (.cons (.int .i64) (.cons (.int .i64) .nil)))), (.cons (.bcells 0 false 1 (.cons (.msw 1 0) .nil)) (.cons (.bts 0 false false false (.int .u8)) .nil))⟩]
noncomputable def moduleWriterTypes_o0 : List StSh := [⟨.exit 0, [], .nil, (.cons (.bcells 0 false 1 (.cons (.msw 1 0) .nil)) (.cons (.bts 0 false false false (.int .u8)) .nil))⟩]
noncomputable def moduleWriterTypes_L0 (n : Nat) : LEntry := ⟨moduleWriterTypes_h0, moduleWriterTypes_o0, moduleWriterTypes_W0 n⟩
noncomputable def moduleWriterTypes_res : List StSh := [⟨.ret, [0], (.cons (.tup .nil) .nil), (.cons (.bcells 0 false 1 (.cons (.msw 1 0) .nil)) (.cons (.bts 0 false false false (.int .u8)) .nil))⟩]
noncomputable def moduleWriterTypes_tbl (n : Nat) : FuncId → List Entry := fun f => bif Nat.beq f 96 then [moduleWriterCountv1_E n] else bif Nat.beq f 98 then [kindPut_E n] else []
noncomputable def moduleWriterTypes_loops (n : Nat) : Nat → Option LEntry := fun f => bif Nat.beq f 0 then some (moduleWriterTypes_L0 n) else none
theorem moduleWriterTypes_r0 (n : Nat) (t10 : DA) (t11 : Int) (t12 : Int) (m1 : DC) : roundK (real _) tab (moduleWriterTypes_tbl n) (moduleWriterTypes_loops n) moduleWriterTypes_an [some true, some false] moduleWriterTypes_l0 0 [0, 10, 11, 12] moduleWriterTypes_h0 moduleWriterTypes_o0 ((t10, (t11, t12)), m1) some = moduleWriterTypes_B0 n t10 t11 t12 m1 := by kernel_rfl
theorem moduleWriterTypes_f0 (n : Nat) : LoopFact tab (moduleWriterTypes_tbl n) (moduleWriterTypes_loops n) moduleWriterTypes_an [some true, some false] n 0 moduleWriterTypes_l0 (moduleWriterTypes_L0 n) := ⟨[0, 10, 11, 12], fun s => moduleWriterTypes_B0 n s.1.1 s.1.2.1 s.1.2.2 s.2, by kernel_rfl, by kernel_rfl, fun s => rfl, fun s => moduleWriterTypes_r0 n s.1.1 s.1.2.1 s.1.2.2 s.2⟩
theorem moduleWriterTypes_run (n : Nat) (list_1 : DA) (m1 : DC) : funDS (real _) tab (moduleWriterTypes_tbl n) (moduleWriterTypes_loops n) moduleWriterTypes_an Try.f97 2 moduleWriterTypes_a moduleWriterTypes_res (list_1, m1) some = moduleWriterTypes n list_1 m1 := by kernel_rfl
noncomputable def moduleWriterTypes_E (n : Nat) : Entry := ⟨moduleWriterTypes_a, moduleWriterTypes_res, fun d => moduleWriterTypes n d.1 d.2⟩
theorem moduleWriterTypes_ok (n : Nat) : EOK Try.prog 97 (moduleWriterTypes_E n) :=
  EOK.ofS prog_names prog_mixed tab_ok (tbl := moduleWriterTypes_tbl n) (loops := moduleWriterTypes_loops n) (an := moduleWriterTypes_an) (old := [some true, some false]) (n := n) (c := moduleWriterTypes_c) (fn := Try.f97) (TblOK.cons (AllE.cons (moduleWriterCountv1_ok n) AllE.nil) (TblOK.cons (AllE.cons (kindPut_ok n) AllE.nil) TblOK.nil)) (by kernel_rfl) (by kernel_rfl) (by kernel_rfl) (by kernel_rfl) (fun d => by kernel_rfl) (LT.cons (by kernel_rfl) (moduleWriterTypes_f0 n) LT.nil) (fun a => moduleWriterTypes_run n a.1 a.2)
noncomputable def moduleRecords_h0 : List StSh := [⟨.normal, [3, 14, 15, 16], (.cons (.ptr 0 0 0 0) (.cons (.sl true false yA) (.cons (.int .i64) (.cons (.int .i64) .nil)))), (.cons (.bcells 0 false 1 (.cons (.msw 1 0) .nil)) (.cons (.bts 0 false false false (.int .u8)) .nil))⟩]
noncomputable def moduleRecords_o0 : List StSh := [⟨.exit 0, [3], (.cons (.ptr 0 0 0 0) .nil), (.cons (.bcells 0 false 1 (.cons (.msw 1 0) .nil)) (.cons (.bts 0 false false false (.int .u8)) .nil))⟩]
noncomputable def moduleRecords_L0 (n : Nat) : LEntry := ⟨moduleRecords_h0, moduleRecords_o0, moduleRecords_W0 n⟩
noncomputable def moduleRecords_res : List StSh := [⟨.ret, [0], (.cons (.sl false false (.int .u8)) .nil), .nil⟩]
noncomputable def moduleRecords_tbl (n : Nat) : FuncId → List Entry := fun f => bif Nat.beq f 96 then [moduleWriterCount_E n] else bif Nat.beq f 97 then [moduleWriterTypes_E n] else []
noncomputable def moduleRecords_loops (n : Nat) : Nat → Option LEntry := fun f => bif Nat.beq f 0 then some (moduleRecords_L0 n) else none
theorem moduleRecords_r0 (n : Nat) (t14 : DG) (t15 : Int) (t16 : Int) (m1 : DC) : roundK (real _) tab (moduleRecords_tbl n) (moduleRecords_loops n) moduleRecords_an [] moduleRecords_l0 0 [3, 14, 15, 16] moduleRecords_h0 moduleRecords_o0 ((t14, (t15, t16)), m1) some = moduleRecords_B0 n t14 t15 t16 m1 := by kernel_rfl
theorem moduleRecords_f0 (n : Nat) : LoopFact tab (moduleRecords_tbl n) (moduleRecords_loops n) moduleRecords_an [] n 0 moduleRecords_l0 (moduleRecords_L0 n) := ⟨[3, 14, 15, 16], fun s => moduleRecords_B0 n s.1.1 s.1.2.1 s.1.2.2 s.2, by kernel_rfl, by kernel_rfl, fun s => rfl, fun s => moduleRecords_r0 n s.1.1 s.1.2.1 s.1.2.2 s.2⟩
theorem moduleRecords_run (n : Nat) (m_0 : DG) (m_0_1 : DH) (m_0_2 : DI) (m_0_3 : DC) (m_0_4 : DD) : funDS (real _) tab (moduleRecords_tbl n) (moduleRecords_loops n) moduleRecords_an Try.f41 0 moduleRecords_a moduleRecords_res (m_0, (m_0_1, (m_0_2, (m_0_3, m_0_4)))) some = moduleRecords n m_0 m_0_1 m_0_2 m_0_3 m_0_4 := by kernel_rfl
noncomputable def moduleRecords_E (n : Nat) : Entry := ⟨moduleRecords_a, moduleRecords_res, fun d => moduleRecords n d.1 d.2.1 d.2.2.1 d.2.2.2.1 d.2.2.2.2⟩
theorem moduleRecords_ok (n : Nat) : EOK Try.prog 41 (moduleRecords_E n) :=
  EOK.ofS prog_names prog_mixed tab_ok (tbl := moduleRecords_tbl n) (loops := moduleRecords_loops n) (an := moduleRecords_an) (old := []) (n := n) (c := moduleRecords_c) (fn := Try.f41) (TblOK.cons (AllE.cons (moduleWriterCount_ok n) AllE.nil) (TblOK.cons (AllE.cons (moduleWriterTypes_ok n) AllE.nil) TblOK.nil)) (by kernel_rfl) (by kernel_rfl) (by kernel_rfl) (by kernel_rfl) (fun d => by kernel_rfl) (LT.cons (by kernel_rfl) (moduleRecords_f0 n) LT.nil) (fun a => moduleRecords_run n a.1 a.2.1 a.2.2.1 a.2.2.2.1 a.2.2.2.2)
noncomputable def moduleFunctions_an : Ann := { live := [(0, [3, 16, 17, 18]), (2, [3, 16, 17, 18, 47, 48, 49])], boxed := [(7, 8), (13, 7)] }
noncomputable def moduleFunctions_c : Code := (match Try.f42.body with | some c => c | none => .skip)
noncomputable def moduleFunctions_l0 : Code := (match assoc 0 (loopsIn moduleFunctions_c 0) with | some c => c | none => .skip)
noncomputable def moduleFunctions_l2 : Code := (match assoc 2 (loopsIn moduleFunctions_c 0) with | some c => c | none => .skip)
noncomputable def moduleFunctions_a : StSh := ⟨.normal, [0], (.cons (.agg (.cons (.sl true false yA) (.cons (.sl true true yB) (.cons (.sl true true yC) (.cons (.sl true false (.int .u64)) (.cons (.sl true false .str) .nil)))))) .nil), .nil⟩
noncomputable def moduleFunctions_h2 : List StSh := [⟨.normal, [3, 16, 17, 18, 47, 48, 49], (.cons (.ptr 0 0 0 0) (.cons (.sl true true yB) (.cons (.int .i64) (.cons (.int .i64) (.cons (.sl true true yE) (.cons (.int .i64) (.cons (.int .i64) .nil))))))), (.cons (.bcells 0 false 1 (.cons (.msw 1 0) .nil)) (.cons (.bts 0 false false false (.int .u8)) .nil))⟩]
noncomputable def moduleFunctions_o2 : List StSh := [⟨.exit 2, [3, 16, 17, 18], (.cons (.ptr 0 0 0 0) (.cons (.sl true true yB) (.cons (.int .i64) (.cons (.int .i64) .nil)))), (.cons (.bcells 0 false 1 (.cons (.msw 1 0) .nil)) (.cons (.bts 0 false false false (.int .u8)) .nil))⟩]
noncomputable def moduleFunctions_L2 (n : Nat) : LEntry := ⟨moduleFunctions_h2, moduleFunctions_o2, moduleFunctions_W2 n⟩
noncomputable def moduleFunctions_h0 : List StSh := [⟨.normal, [3, 16, 17, 18], (.cons (.ptr 0 0 0 0) (.cons (.sl true true yB) (.cons (.int .i64) (.cons (.int .i64) .nil)))), (.cons (.bcells 0 false 1 (.cons (.msw 1 0) .nil)) (.cons (.bts 0 false false false (.int .u8)) .nil))⟩]
noncomputable def moduleFunctions_o0 : List StSh := [⟨.exit 0, [3], (.cons (.ptr 0 0 0 0) .nil), (.cons (.bcells 0 false 1 (.cons (.msw 1 0) .nil)) (.cons (.bts 0 false false false (.int .u8)) .nil))⟩]
noncomputable def moduleFunctions_L0 (n : Nat) : LEntry := ⟨moduleFunctions_h0, moduleFunctions_o0, moduleFunctions_W0 n⟩
noncomputable def moduleFunctions_res : List StSh := [⟨.ret, [0], (.cons (.sl false false (.int .u8)) .nil), .nil⟩]
noncomputable def moduleFunctions_tbl (n : Nat) : FuncId → List Entry := fun f => bif Nat.beq f 96 then [moduleWriterCount_E n, moduleWriterCountv1_E n] else bif Nat.beq f 97 then [moduleWriterTypes_E n] else bif Nat.beq f 98 then [kindPut_E n] else bif Nat.beq f 99 then [instPut_E n] else []
noncomputable def moduleFunctions_loops (n : Nat) : Nat → Option LEntry := fun f => bif Nat.beq f 2 then some (moduleFunctions_L2 n) else bif Nat.beq f 0 then some (moduleFunctions_L0 n) else none
theorem moduleFunctions_r2 (n : Nat) (t16 : DH) (t17 : Int) (t18 : Int) (t47 : DB) (t48 : Int) (t49 : Int) (m1 : DC) : roundK (real _) tab (moduleFunctions_tbl n) (moduleFunctions_loops n) moduleFunctions_an [] moduleFunctions_l2 2 [3, 16, 17, 18, 47, 48, 49] moduleFunctions_h2 moduleFunctions_o2 ((t16, (t17, (t18, (t47, (t48, t49))))), m1) some = moduleFunctions_B2 n t16 t17 t18 t47 t48 t49 m1 := by kernel_rfl
theorem moduleFunctions_f2 (n : Nat) : LoopFact tab (moduleFunctions_tbl n) (moduleFunctions_loops n) moduleFunctions_an [] n 2 moduleFunctions_l2 (moduleFunctions_L2 n) := ⟨[3, 16, 17, 18, 47, 48, 49], fun s => moduleFunctions_B2 n s.1.1 s.1.2.1 s.1.2.2.1 s.1.2.2.2.1 s.1.2.2.2.2.1 s.1.2.2.2.2.2 s.2, by kernel_rfl, by kernel_rfl, fun s => rfl, fun s => moduleFunctions_r2 n s.1.1 s.1.2.1 s.1.2.2.1 s.1.2.2.2.1 s.1.2.2.2.2.1 s.1.2.2.2.2.2 s.2⟩
theorem moduleFunctions_r0 (n : Nat) (t16 : DH) (t17 : Int) (t18 : Int) (m1 : DC) : roundK (real _) tab (moduleFunctions_tbl n) (moduleFunctions_loops n) moduleFunctions_an [] moduleFunctions_l0 0 [3, 16, 17, 18] moduleFunctions_h0 moduleFunctions_o0 ((t16, (t17, t18)), m1) some = moduleFunctions_B0 n t16 t17 t18 m1 := by kernel_rfl
theorem moduleFunctions_f0 (n : Nat) : LoopFact tab (moduleFunctions_tbl n) (moduleFunctions_loops n) moduleFunctions_an [] n 0 moduleFunctions_l0 (moduleFunctions_L0 n) := ⟨[3, 16, 17, 18], fun s => moduleFunctions_B0 n s.1.1 s.1.2.1 s.1.2.2 s.2, by kernel_rfl, by kernel_rfl, fun s => rfl, fun s => moduleFunctions_r0 n s.1.1 s.1.2.1 s.1.2.2 s.2⟩
theorem moduleFunctions_run (n : Nat) (t0 : DG) (t0_1 : DH) (t0_2 : DI) (t0_3 : DC) (t0_4 : DD) : funDS (real _) tab (moduleFunctions_tbl n) (moduleFunctions_loops n) moduleFunctions_an Try.f42 0 moduleFunctions_a moduleFunctions_res (t0, (t0_1, (t0_2, (t0_3, t0_4)))) some = moduleFunctions n t0 t0_1 t0_2 t0_3 t0_4 := by kernel_rfl
noncomputable def moduleFunctions_E (n : Nat) : Entry := ⟨moduleFunctions_a, moduleFunctions_res, fun d => moduleFunctions n d.1 d.2.1 d.2.2.1 d.2.2.2.1 d.2.2.2.2⟩
theorem moduleFunctions_ok (n : Nat) : EOK Try.prog 42 (moduleFunctions_E n) :=
  EOK.ofS prog_names prog_mixed tab_ok (tbl := moduleFunctions_tbl n) (loops := moduleFunctions_loops n) (an := moduleFunctions_an) (old := []) (n := n) (c := moduleFunctions_c) (fn := Try.f42) (TblOK.cons (AllE.cons (moduleWriterCount_ok n) (AllE.cons (moduleWriterCountv1_ok n) AllE.nil)) (TblOK.cons (AllE.cons (moduleWriterTypes_ok n) AllE.nil) (TblOK.cons (AllE.cons (kindPut_ok n) AllE.nil) (TblOK.cons (AllE.cons (instPut_ok n) AllE.nil) TblOK.nil)))) (by kernel_rfl) (by kernel_rfl) (by kernel_rfl) (by kernel_rfl) (fun d => by kernel_rfl) (LT.cons (by kernel_rfl) (moduleFunctions_f2 n) (LT.cons (by kernel_rfl) (moduleFunctions_f0 n) LT.nil)) (fun a => moduleFunctions_run n a.1 a.2.1 a.2.2.1 a.2.2.2.1 a.2.2.2.2)
noncomputable def moduleImports_an : Ann := { live := [(0, [3, 14, 15, 16])], boxed := [(7, 8)] }
noncomputable def moduleImports_c : Code := (match Try.f43.body with | some c => c | none => .skip)
noncomputable def moduleImports_l0 : Code := (match assoc 0 (loopsIn moduleImports_c 0) with | some c => c | none => .skip)
noncomputable def moduleImports_a : StSh := ⟨.normal, [0], (.cons (.agg (.cons (.sl true false yA) (.cons (.sl true true yB) (.cons (.sl true true yC) (.cons (.sl true false (.int .u64)) (.cons (.sl true false .str) .nil)))))) .nil), .nil⟩
noncomputable def moduleImports_h0 : List StSh := [⟨.normal, [3, 14, 15, 16], (.cons (.ptr 0 0 0 0) (.cons (.sl true true yC) (.cons (.int .i64) (.cons (.int .i64) .nil)))), (.cons (.bcells 0 false 1 (.cons (.msw 1 0) .nil)) (.cons (.bts 0 false false false (.int .u8)) .nil))⟩]
noncomputable def moduleImports_o0 : List StSh := [⟨.exit 0, [3], (.cons (.ptr 0 0 0 0) .nil), (.cons (.bcells 0 false 1 (.cons (.msw 1 0) .nil)) (.cons (.bts 0 false false false (.int .u8)) .nil))⟩]
noncomputable def moduleImports_L0 (n : Nat) : LEntry := ⟨moduleImports_h0, moduleImports_o0, moduleImports_W0 n⟩
noncomputable def moduleImports_res : List StSh := [⟨.ret, [0], (.cons (.sl false false (.int .u8)) .nil), .nil⟩]
noncomputable def moduleImports_tbl (n : Nat) : FuncId → List Entry := fun f => bif Nat.beq f 96 then [moduleWriterCount_E n] else bif Nat.beq f 97 then [moduleWriterTypes_E n] else bif Nat.beq f 98 then [kindPut_E n] else []
noncomputable def moduleImports_loops (n : Nat) : Nat → Option LEntry := fun f => bif Nat.beq f 0 then some (moduleImports_L0 n) else none
theorem moduleImports_r0 (n : Nat) (t14 : DI) (t15 : Int) (t16 : Int) (m1 : DC) : roundK (real _) tab (moduleImports_tbl n) (moduleImports_loops n) moduleImports_an [] moduleImports_l0 0 [3, 14, 15, 16] moduleImports_h0 moduleImports_o0 ((t14, (t15, t16)), m1) some = moduleImports_B0 n t14 t15 t16 m1 := by kernel_rfl
theorem moduleImports_f0 (n : Nat) : LoopFact tab (moduleImports_tbl n) (moduleImports_loops n) moduleImports_an [] n 0 moduleImports_l0 (moduleImports_L0 n) := ⟨[3, 14, 15, 16], fun s => moduleImports_B0 n s.1.1 s.1.2.1 s.1.2.2 s.2, by kernel_rfl, by kernel_rfl, fun s => rfl, fun s => moduleImports_r0 n s.1.1 s.1.2.1 s.1.2.2 s.2⟩
theorem moduleImports_run (n : Nat) (m_0 : DG) (m_0_1 : DH) (m_0_2 : DI) (m_0_3 : DC) (m_0_4 : DD) : funDS (real _) tab (moduleImports_tbl n) (moduleImports_loops n) moduleImports_an Try.f43 0 moduleImports_a moduleImports_res (m_0, (m_0_1, (m_0_2, (m_0_3, m_0_4)))) some = moduleImports n m_0 m_0_1 m_0_2 m_0_3 m_0_4 := by kernel_rfl
noncomputable def moduleImports_E (n : Nat) : Entry := ⟨moduleImports_a, moduleImports_res, fun d => moduleImports n d.1 d.2.1 d.2.2.1 d.2.2.2.1 d.2.2.2.2⟩
theorem moduleImports_ok (n : Nat) : EOK Try.prog 43 (moduleImports_E n) :=
  EOK.ofS prog_names prog_mixed tab_ok (tbl := moduleImports_tbl n) (loops := moduleImports_loops n) (an := moduleImports_an) (old := []) (n := n) (c := moduleImports_c) (fn := Try.f43) (TblOK.cons (AllE.cons (moduleWriterCount_ok n) AllE.nil) (TblOK.cons (AllE.cons (moduleWriterTypes_ok n) AllE.nil) (TblOK.cons (AllE.cons (kindPut_ok n) AllE.nil) TblOK.nil))) (by kernel_rfl) (by kernel_rfl) (by kernel_rfl) (by kernel_rfl) (fun d => by kernel_rfl) (LT.cons (by kernel_rfl) (moduleImports_f0 n) LT.nil) (fun a => moduleImports_run n a.1 a.2.1 a.2.2.1 a.2.2.2.1 a.2.2.2.2)
noncomputable def moduleNumbers_an : Ann := { live := [(0, [3, 14, 15, 16])], boxed := [(6, 7)] }
noncomputable def moduleNumbers_c : Code := (match Try.f44.body with | some c => c | none => .skip)
noncomputable def moduleNumbers_l0 : Code := (match assoc 0 (loopsIn moduleNumbers_c 0) with | some c => c | none => .skip)
noncomputable def moduleNumbers_a : StSh := ⟨.normal, [0], (.cons (.agg (.cons (.sl true false yA) (.cons (.sl true true yB) (.cons (.sl true true yC) (.cons (.sl true false (.int .u64)) (.cons (.sl true false .str) .nil)))))) .nil), .nil⟩
noncomputable def numFixed_an : Ann := { live := [(0, [0, 5, 9, 10])], boxed := [(1, 0), (5, 7)] }
noncomputable def numFixed_c : Code := (match Try.f100.body with | some c => c | none => .skip)
noncomputable def numFixed_l0 : Code := (match assoc 0 (loopsIn numFixed_c 0) with | some c => c | none => .skip)
noncomputable def numFixed_a : StSh := ⟨.normal, [0, 1], (.cons (.int .u64) (.cons (.int .i64) .nil)), .nil⟩
noncomputable def numFixed_h0 : List StSh := [⟨.normal, [0, 5, 9, 10], (.cons (.int .u64) (.cons (.msw 0 0) (.cons (.int .i64) (.cons (.int .i64) .nil)))), (.cons (.bts 0 false false false (.int .u8)) .nil)⟩]
noncomputable def numFixed_o0 : List StSh := [⟨.exit 0, [5], (.cons (.msw 0 0) .nil), (.cons (.bts 0 false false false (.int .u8)) .nil)⟩]
noncomputable def numFixed_L0 (n : Nat) : LEntry := ⟨numFixed_h0, numFixed_o0, numFixed_W0 n⟩
noncomputable def numFixed_res : List StSh := [⟨.ret, [0], (.cons (.sl false false (.int .u8)) .nil), .nil⟩]
noncomputable def numFixed_tbl (n : Nat) : FuncId → List Entry := fun f => []
noncomputable def numFixed_loops (n : Nat) : Nat → Option LEntry := fun f => bif Nat.beq f 0 then some (numFixed_L0 n) else none
theorem numFixed_r0 (n : Nat) (v_0 : Int) (t9 : Int) (t10 : Int) (m0 : DC) : roundK (real _) tab (numFixed_tbl n) (numFixed_loops n) numFixed_an [] numFixed_l0 0 [0, 5, 9, 10] numFixed_h0 numFixed_o0 ((v_0, (t9, t10)), m0) some = numFixed_B0 n v_0 t9 t10 m0 := by kernel_rfl
theorem numFixed_f0 (n : Nat) : LoopFact tab (numFixed_tbl n) (numFixed_loops n) numFixed_an [] n 0 numFixed_l0 (numFixed_L0 n) := ⟨[0, 5, 9, 10], fun s => numFixed_B0 n s.1.1 s.1.2.1 s.1.2.2 s.2, by kernel_rfl, by kernel_rfl, fun s => rfl, fun s => numFixed_r0 n s.1.1 s.1.2.1 s.1.2.2 s.2⟩
theorem numFixed_run (n : Nat) (v_0 : Int) (n_1 : Int) : funDS (real _) tab (numFixed_tbl n) (numFixed_loops n) numFixed_an Try.f100 0 numFixed_a numFixed_res (v_0, n_1) some = numFixed n v_0 n_1 := by kernel_rfl
noncomputable def numFixed_E (n : Nat) : Entry := ⟨numFixed_a, numFixed_res, fun d => numFixed n d.1 d.2⟩
theorem numFixed_ok (n : Nat) : EOK Try.prog 100 (numFixed_E n) :=
  EOK.ofS prog_names prog_mixed tab_ok (tbl := numFixed_tbl n) (loops := numFixed_loops n) (an := numFixed_an) (old := []) (n := n) (c := numFixed_c) (fn := Try.f100) TblOK.nil (by kernel_rfl) (by kernel_rfl) (by kernel_rfl) (by kernel_rfl) (fun d => by kernel_rfl) (LT.cons (by kernel_rfl) (numFixed_f0 n) LT.nil) (fun a => numFixed_run n a.1 a.2)
noncomputable def moduleNumbers_h0 : List StSh := [⟨.normal, [3, 14, 15, 16], (.cons (.ptr 0 0 0 0) (.cons (.sl true false (.int .u64)) (.cons (.int .i64) (.cons (.int .i64) .nil)))), (.cons (.bcells 0 false 1 (.cons (.msw 1 0) .nil)) (.cons (.bts 0 false false false (.int .u8)) .nil))⟩]
noncomputable def moduleNumbers_o0 : List StSh := [⟨.exit 0, [3], (.cons (.ptr 0 0 0 0) .nil), (.cons (.bcells 0 false 1 (.cons (.msw 1 0) .nil)) (.cons (.bts 0 false false false (.int .u8)) .nil))⟩]
noncomputable def moduleNumbers_L0 (n : Nat) : LEntry := ⟨moduleNumbers_h0, moduleNumbers_o0, moduleNumbers_W0 n⟩
noncomputable def moduleNumbers_res : List StSh := [⟨.ret, [0], (.cons (.sl false false (.int .u8)) .nil), .nil⟩]
noncomputable def moduleNumbers_tbl (n : Nat) : FuncId → List Entry := fun f => bif Nat.beq f 96 then [moduleWriterCount_E n] else bif Nat.beq f 100 then [numFixed_E n] else []
noncomputable def moduleNumbers_loops (n : Nat) : Nat → Option LEntry := fun f => bif Nat.beq f 0 then some (moduleNumbers_L0 n) else none
theorem moduleNumbers_r0 (n : Nat) (t14 : DC) (t15 : Int) (t16 : Int) (m1 : DC) : roundK (real _) tab (moduleNumbers_tbl n) (moduleNumbers_loops n) moduleNumbers_an [] moduleNumbers_l0 0 [3, 14, 15, 16] moduleNumbers_h0 moduleNumbers_o0 ((t14, (t15, t16)), m1) some = moduleNumbers_B0 n t14 t15 t16 m1 := by kernel_rfl
theorem moduleNumbers_f0 (n : Nat) : LoopFact tab (moduleNumbers_tbl n) (moduleNumbers_loops n) moduleNumbers_an [] n 0 moduleNumbers_l0 (moduleNumbers_L0 n) := ⟨[3, 14, 15, 16], fun s => moduleNumbers_B0 n s.1.1 s.1.2.1 s.1.2.2 s.2, by kernel_rfl, by kernel_rfl, fun s => rfl, fun s => moduleNumbers_r0 n s.1.1 s.1.2.1 s.1.2.2 s.2⟩
theorem moduleNumbers_run (n : Nat) (m_0 : DG) (m_0_1 : DH) (m_0_2 : DI) (m_0_3 : DC) (m_0_4 : DD) : funDS (real _) tab (moduleNumbers_tbl n) (moduleNumbers_loops n) moduleNumbers_an Try.f44 0 moduleNumbers_a moduleNumbers_res (m_0, (m_0_1, (m_0_2, (m_0_3, m_0_4)))) some = moduleNumbers n m_0 m_0_1 m_0_2 m_0_3 m_0_4 := by kernel_rfl
noncomputable def moduleNumbers_E (n : Nat) : Entry := ⟨moduleNumbers_a, moduleNumbers_res, fun d => moduleNumbers n d.1 d.2.1 d.2.2.1 d.2.2.2.1 d.2.2.2.2⟩
theorem moduleNumbers_ok (n : Nat) : EOK Try.prog 44 (moduleNumbers_E n) :=
  EOK.ofS prog_names prog_mixed tab_ok (tbl := moduleNumbers_tbl n) (loops := moduleNumbers_loops n) (an := moduleNumbers_an) (old := []) (n := n) (c := moduleNumbers_c) (fn := Try.f44) (TblOK.cons (AllE.cons (moduleWriterCount_ok n) AllE.nil) (TblOK.cons (AllE.cons (numFixed_ok n) AllE.nil) TblOK.nil)) (by kernel_rfl) (by kernel_rfl) (by kernel_rfl) (by kernel_rfl) (fun d => by kernel_rfl) (LT.cons (by kernel_rfl) (moduleNumbers_f0 n) LT.nil) (fun a => moduleNumbers_run n a.1 a.2.1 a.2.2.1 a.2.2.2.1 a.2.2.2.2)
noncomputable def moduleTexts_an : Ann := { live := [(0, [3, 14, 15, 16])], boxed := [(7, 6)] }
noncomputable def moduleTexts_c : Code := (match Try.f45.body with | some c => c | none => .skip)
noncomputable def moduleTexts_l0 : Code := (match assoc 0 (loopsIn moduleTexts_c 0) with | some c => c | none => .skip)
noncomputable def moduleTexts_a : StSh := ⟨.normal, [0], (.cons (.agg (.cons (.sl true false yA) (.cons (.sl true true yB) (.cons (.sl true true yC) (.cons (.sl true false (.int .u64)) (.cons (.sl true false .str) .nil)))))) .nil), .nil⟩
noncomputable def moduleTexts_h0 : List StSh := [⟨.normal, [3, 14, 15, 16], (.cons (.ptr 0 0 0 0) (.cons (.sl true false .str) (.cons (.int .i64) (.cons (.int .i64) .nil)))), (.cons (.bcells 0 false 1 (.cons (.msw 1 0) .nil)) (.cons (.bts 0 false false false (.int .u8)) .nil))⟩]
noncomputable def moduleTexts_o0 : List StSh := [⟨.exit 0, [3], (.cons (.ptr 0 0 0 0) .nil), (.cons (.bcells 0 false 1 (.cons (.msw 1 0) .nil)) (.cons (.bts 0 false false false (.int .u8)) .nil))⟩]
noncomputable def moduleTexts_L0 (n : Nat) : LEntry := ⟨moduleTexts_h0, moduleTexts_o0, moduleTexts_W0 n⟩
noncomputable def moduleTexts_res : List StSh := [⟨.ret, [0], (.cons (.sl false false (.int .u8)) .nil), .nil⟩]
noncomputable def moduleTexts_tbl (n : Nat) : FuncId → List Entry := fun f => bif Nat.beq f 96 then [moduleWriterCount_E n, moduleWriterCountv1_E n] else []
noncomputable def moduleTexts_loops (n : Nat) : Nat → Option LEntry := fun f => bif Nat.beq f 0 then some (moduleTexts_L0 n) else none
theorem moduleTexts_r0 (n : Nat) (t14 : DD) (t15 : Int) (t16 : Int) (m1 : DC) : roundK (real _) tab (moduleTexts_tbl n) (moduleTexts_loops n) moduleTexts_an [] moduleTexts_l0 0 [3, 14, 15, 16] moduleTexts_h0 moduleTexts_o0 ((t14, (t15, t16)), m1) some = moduleTexts_B0 n t14 t15 t16 m1 := by kernel_rfl
theorem moduleTexts_f0 (n : Nat) : LoopFact tab (moduleTexts_tbl n) (moduleTexts_loops n) moduleTexts_an [] n 0 moduleTexts_l0 (moduleTexts_L0 n) := ⟨[3, 14, 15, 16], fun s => moduleTexts_B0 n s.1.1 s.1.2.1 s.1.2.2 s.2, by kernel_rfl, by kernel_rfl, fun s => rfl, fun s => moduleTexts_r0 n s.1.1 s.1.2.1 s.1.2.2 s.2⟩
theorem moduleTexts_run (n : Nat) (m_0 : DG) (m_0_1 : DH) (m_0_2 : DI) (m_0_3 : DC) (m_0_4 : DD) : funDS (real _) tab (moduleTexts_tbl n) (moduleTexts_loops n) moduleTexts_an Try.f45 0 moduleTexts_a moduleTexts_res (m_0, (m_0_1, (m_0_2, (m_0_3, m_0_4)))) some = moduleTexts n m_0 m_0_1 m_0_2 m_0_3 m_0_4 := by kernel_rfl
noncomputable def moduleTexts_E (n : Nat) : Entry := ⟨moduleTexts_a, moduleTexts_res, fun d => moduleTexts n d.1 d.2.1 d.2.2.1 d.2.2.2.1 d.2.2.2.2⟩
theorem moduleTexts_ok (n : Nat) : EOK Try.prog 45 (moduleTexts_E n) :=
  EOK.ofS prog_names prog_mixed tab_ok (tbl := moduleTexts_tbl n) (loops := moduleTexts_loops n) (an := moduleTexts_an) (old := []) (n := n) (c := moduleTexts_c) (fn := Try.f45) (TblOK.cons (AllE.cons (moduleWriterCount_ok n) (AllE.cons (moduleWriterCountv1_ok n) AllE.nil)) TblOK.nil) (by kernel_rfl) (by kernel_rfl) (by kernel_rfl) (by kernel_rfl) (fun d => by kernel_rfl) (LT.cons (by kernel_rfl) (moduleTexts_f0 n) LT.nil) (fun a => moduleTexts_run n a.1 a.2.1 a.2.2.1 a.2.2.2.1 a.2.2.2.2)
noncomputable def packJoin_an : Ann := { live := [(0, [3, 10, 11, 12])], boxed := [(5, 5), (6, 2)], raw := [(1, 3)] }
noncomputable def packJoin_c : Code := (match Try.f40.body with | some c => c | none => .skip)
noncomputable def packJoin_l0 : Code := (match assoc 0 (loopsIn packJoin_c 0) with | some c => c | none => .skip)
noncomputable def packJoin_a : StSh := ⟨.normal, [0], (.cons (.sl true false yF) .nil), .nil⟩
noncomputable def packJoin_h0 : List StSh := [⟨.normal, [3, 10, 11, 12], (.cons (.msw 0 0) (.cons (.sl true false yF) (.cons (.int .i64) (.cons (.int .i64) .nil)))), (.cons (.bts 0 false false false (.int .u8)) .nil)⟩]
noncomputable def packJoin_o0 : List StSh := [⟨.exit 0, [3], (.cons (.msw 0 0) .nil), (.cons (.bts 0 false false false (.int .u8)) .nil)⟩]
noncomputable def packJoin_L0 (n : Nat) : LEntry := ⟨packJoin_h0, packJoin_o0, packJoin_W0 n⟩
noncomputable def packJoin_res : List StSh := [⟨.ret, [0], (.cons (.sl false false (.int .u8)) .nil), .nil⟩]
noncomputable def packJoin_tbl (n : Nat) : FuncId → List Entry := fun f => bif Nat.beq f 95 then [numVar_E n] else []
noncomputable def packJoin_loops (n : Nat) : Nat → Option LEntry := fun f => bif Nat.beq f 0 then some (packJoin_L0 n) else none
theorem packJoin_r0 (n : Nat) (t10 : DJ) (t11 : Int) (t12 : Int) (m0 : DC) : roundK (real _) tab (packJoin_tbl n) (packJoin_loops n) packJoin_an [] packJoin_l0 0 [3, 10, 11, 12] packJoin_h0 packJoin_o0 ((t10, (t11, t12)), m0) some = packJoin_B0 n t10 t11 t12 m0 := by kernel_rfl
theorem packJoin_f0 (n : Nat) : LoopFact tab (packJoin_tbl n) (packJoin_loops n) packJoin_an [] n 0 packJoin_l0 (packJoin_L0 n) := ⟨[3, 10, 11, 12], fun s => packJoin_B0 n s.1.1 s.1.2.1 s.1.2.2 s.2, by kernel_rfl, by kernel_rfl, fun s => rfl, fun s => packJoin_r0 n s.1.1 s.1.2.1 s.1.2.2 s.2⟩
theorem packJoin_run (n : Nat) (parts_0 : DJ) : funDS (real _) tab (packJoin_tbl n) (packJoin_loops n) packJoin_an Try.f40 0 packJoin_a packJoin_res parts_0 some = packJoin n parts_0 := by kernel_rfl
noncomputable def packJoin_E (n : Nat) : Entry := ⟨packJoin_a, packJoin_res, fun d => packJoin n d⟩
theorem packJoin_ok (n : Nat) : EOK Try.prog 40 (packJoin_E n) :=
  EOK.ofS prog_names prog_mixed tab_ok (tbl := packJoin_tbl n) (loops := packJoin_loops n) (an := packJoin_an) (old := []) (n := n) (c := packJoin_c) (fn := Try.f40) (TblOK.cons (AllE.cons (numVar_ok n) AllE.nil) TblOK.nil) (by kernel_rfl) (by kernel_rfl) (by kernel_rfl) (by kernel_rfl) (fun d => by kernel_rfl) (LT.cons (by kernel_rfl) (packJoin_f0 n) LT.nil) (fun a => packJoin_run n a)
noncomputable def moduleEncode_res : List StSh := [⟨.ret, [0], (.cons (.tup (.cons (.sl false false (.int .u8)) (.cons (.int .i64) .nil))) .nil), .nil⟩]
noncomputable def moduleEncode_tbl (n : Nat) : FuncId → List Entry := fun f => bif Nat.beq f 39 then [moduleFits_E n] else bif Nat.beq f 41 then [moduleRecords_E n] else bif Nat.beq f 42 then [moduleFunctions_E n] else bif Nat.beq f 43 then [moduleImports_E n] else bif Nat.beq f 44 then [moduleNumbers_E n] else bif Nat.beq f 45 then [moduleTexts_E n] else bif Nat.beq f 40 then [packJoin_E n] else []
noncomputable def moduleEncode_loops (n : Nat) : Nat → Option LEntry := fun f => none
theorem moduleEncode_run (n : Nat) (m_0 : DG) (m_0_1 : DH) (m_0_2 : DI) (m_0_3 : DC) (m_0_4 : DD) : funDS (real _) tab (moduleEncode_tbl n) (moduleEncode_loops n) moduleEncode_an Try.f20 0 moduleEncode_a moduleEncode_res (m_0, (m_0_1, (m_0_2, (m_0_3, m_0_4)))) some = moduleEncode n m_0 m_0_1 m_0_2 m_0_3 m_0_4 := by kernel_rfl
noncomputable def moduleEncode_E (n : Nat) : Entry := ⟨moduleEncode_a, moduleEncode_res, fun d => moduleEncode n d.1 d.2.1 d.2.2.1 d.2.2.2.1 d.2.2.2.2⟩
theorem moduleEncode_ok (n : Nat) : EOK Try.prog 20 (moduleEncode_E n) :=
  EOK.ofS prog_names prog_mixed tab_ok (tbl := moduleEncode_tbl n) (loops := moduleEncode_loops n) (an := moduleEncode_an) (old := []) (n := n) (c := moduleEncode_c) (fn := Try.f20) (TblOK.cons (AllE.cons (moduleFits_ok n) AllE.nil) (TblOK.cons (AllE.cons (moduleRecords_ok n) AllE.nil) (TblOK.cons (AllE.cons (moduleFunctions_ok n) AllE.nil) (TblOK.cons (AllE.cons (moduleImports_ok n) AllE.nil) (TblOK.cons (AllE.cons (moduleNumbers_ok n) AllE.nil) (TblOK.cons (AllE.cons (moduleTexts_ok n) AllE.nil) (TblOK.cons (AllE.cons (packJoin_ok n) AllE.nil) TblOK.nil))))))) (by kernel_rfl) (by kernel_rfl) (by kernel_rfl) (by kernel_rfl) (fun d => by kernel_rfl) LT.nil (fun a => moduleEncode_run n a.1 a.2.1 a.2.2.1 a.2.2.2.1 a.2.2.2.2)
noncomputable def ContainsFuncInstrv1_an : Ann := {}
noncomputable def ContainsFuncInstrv1_c : Code := (match Try.f30.body with | some c => c | none => .skip)
noncomputable def ContainsFuncInstrv1_a : StSh := ⟨.normal, [0, 1], (.cons (.sl true true yE) (.cons (.fn 28 .nil (.cons (.ptr 0 0 0 0) (.cons (.ptr 1 0 0 0) .nil))) .nil)), (.cons (.bcells 0 false 1 (.cons (.sl true false yA) (.cons (.sl true true yB) (.cons (.sl true true yC) (.cons (.sl true false (.int .u64)) (.cons (.sl true false .str) .nil)))))) (.cons (.bcells 0 false 1 (.cons (.sl true true yD) (.cons (.int .i64) (.cons (.int .i64) (.cons (.sl true true yD) (.cons (.sl true true yE) .nil)))))) .nil))⟩
noncomputable def IndexFuncInstrv1_an : Ann := { live := [(0, [0, 1, 7, 8])] }
noncomputable def IndexFuncInstrv1_c : Code := (match Try.f82.body with | some c => c | none => .skip)
noncomputable def IndexFuncInstrv1_l0 : Code := (match assoc 0 (loopsIn IndexFuncInstrv1_c 0) with | some c => c | none => .skip)
noncomputable def IndexFuncInstrv1_a : StSh := ⟨.normal, [0, 1], (.cons (.sl true true yE) (.cons (.fn 28 .nil (.cons (.ptr 0 0 0 0) (.cons (.ptr 1 0 0 0) .nil))) .nil)), (.cons (.bcells 0 false 1 (.cons (.sl true false yA) (.cons (.sl true true yB) (.cons (.sl true true yC) (.cons (.sl true false (.int .u64)) (.cons (.sl true false .str) .nil)))))) (.cons (.bcells 0 false 1 (.cons (.sl true true yD) (.cons (.int .i64) (.cons (.int .i64) (.cons (.sl true true yD) (.cons (.sl true true yE) .nil)))))) .nil))⟩
noncomputable def saneCheck1_an : Ann := {}
noncomputable def saneCheck1_c : Code := (match Try.f28.body with | some c => c | none => .skip)
noncomputable def saneCheck1_a : StSh := ⟨.normal, [0, 1, 2], (.cons (.agg (.cons (.int .i64) (.cons (.int .i64) (.cons (.int .i64) .nil)))) (.cons (.ptr 0 0 0 0) (.cons (.ptr 1 0 0 0) .nil))), (.cons (.bcells 0 false 1 (.cons (.sl true false yA) (.cons (.sl true true yB) (.cons (.sl true true yC) (.cons (.sl true false (.int .u64)) (.cons (.sl true false .str) .nil)))))) (.cons (.bcells 0 false 1 (.cons (.sl true true yD) (.cons (.int .i64) (.cons (.int .i64) (.cons (.sl true true yD) (.cons (.sl true true yE) .nil)))))) .nil))⟩
noncomputable def saneNames_an : Ann := {}
noncomputable def saneNames_c : Code := (match Try.f29.body with | some c => c | none => .skip)
noncomputable def saneNames_a : StSh := ⟨.normal, [0, 1, 2], (.cons (.agg (.cons (.sl true false yA) (.cons (.sl true true yB) (.cons (.sl true true yC) (.cons (.sl true false (.int .u64)) (.cons (.sl true false .str) .nil)))))) (.cons (.agg (.cons (.sl true true yD) (.cons (.int .i64) (.cons (.int .i64) (.cons (.sl true true yD) (.cons (.sl true true yE) .nil)))))) (.cons (.agg (.cons (.int .i64) (.cons (.int .i64) (.cons (.int .i64) .nil)))) .nil))), .nil⟩
noncomputable def saneBelow_an : Ann := {}
noncomputable def saneBelow_c : Code := (match Try.f81.body with | some c => c | none => .skip)
noncomputable def saneBelow_a : StSh := ⟨.normal, [0, 1], (.cons (.int .i64) (.cons (.int .i64) .nil)), .nil⟩
noncomputable def saneBelow_res : List StSh := [⟨.ret, [0], (.cons .bool .nil), .nil⟩]
noncomputable def saneBelow_tbl (n : Nat) : FuncId → List Entry := fun f => []
noncomputable def saneBelow_loops (n : Nat) : Nat → Option LEntry := fun f => none
theorem saneBelow_run (n : Nat) (n_0 : Int) (most_1 : Int) : funDS (real _) tab (saneBelow_tbl n) (saneBelow_loops n) saneBelow_an Try.f81 0 saneBelow_a saneBelow_res (n_0, most_1) some = saneBelow n n_0 most_1 := by kernel_rfl
noncomputable def saneBelow_E (n : Nat) : Entry := ⟨saneBelow_a, saneBelow_res, fun d => saneBelow n d.1 d.2⟩
theorem saneBelow_ok (n : Nat) : EOK Try.prog 81 (saneBelow_E n) :=
  EOK.ofS prog_names prog_mixed tab_ok (tbl := saneBelow_tbl n) (loops := saneBelow_loops n) (an := saneBelow_an) (old := []) (n := n) (c := saneBelow_c) (fn := Try.f81) TblOK.nil (by kernel_rfl) (by kernel_rfl) (by kernel_rfl) (by kernel_rfl) (fun d => by kernel_rfl) LT.nil (fun a => saneBelow_run n a.1 a.2)
noncomputable def saneNames_res : List StSh := [⟨.ret, [0], (.cons .bool .nil), .nil⟩]
noncomputable def saneNames_tbl (n : Nat) : FuncId → List Entry := fun f => bif Nat.beq f 81 then [saneBelow_E n] else []
noncomputable def saneNames_loops (n : Nat) : Nat → Option LEntry := fun f => none
theorem saneNames_run (n : Nat) (t0 : DG) (t0_1 : DH) (t0_2 : DI) (t0_3 : DC) (t0_4 : DD) (t1 : DA) (t1_1 : Int) (t1_2 : Int) (t1_3 : DA) (t1_4 : DB) (t2 : Int) (t2_1 : Int) (t2_2 : Int) : funDS (real _) tab (saneNames_tbl n) (saneNames_loops n) saneNames_an Try.f29 0 saneNames_a saneNames_res ((t0, (t0_1, (t0_2, (t0_3, t0_4)))), ((t1, (t1_1, (t1_2, (t1_3, t1_4)))), (t2, (t2_1, t2_2)))) some = saneNames n t0 t0_1 t0_2 t0_3 t0_4 t1 t1_1 t1_2 t1_3 t1_4 t2 t2_1 t2_2 := by kernel_rfl
noncomputable def saneNames_E (n : Nat) : Entry := ⟨saneNames_a, saneNames_res, fun d => saneNames n d.1.1 d.1.2.1 d.1.2.2.1 d.1.2.2.2.1 d.1.2.2.2.2 d.2.1.1 d.2.1.2.1 d.2.1.2.2.1 d.2.1.2.2.2.1 d.2.1.2.2.2.2 d.2.2.1 d.2.2.2.1 d.2.2.2.2⟩
theorem saneNames_ok (n : Nat) : EOK Try.prog 29 (saneNames_E n) :=
  EOK.ofS prog_names prog_mixed tab_ok (tbl := saneNames_tbl n) (loops := saneNames_loops n) (an := saneNames_an) (old := []) (n := n) (c := saneNames_c) (fn := Try.f29) (TblOK.cons (AllE.cons (saneBelow_ok n) AllE.nil) TblOK.nil) (by kernel_rfl) (by kernel_rfl) (by kernel_rfl) (by kernel_rfl) (fun d => by kernel_rfl) LT.nil (fun a => saneNames_run n a.1.1 a.1.2.1 a.1.2.2.1 a.1.2.2.2.1 a.1.2.2.2.2 a.2.1.1 a.2.1.2.1 a.2.1.2.2.1 a.2.1.2.2.2.1 a.2.1.2.2.2.2 a.2.2.1 a.2.2.2.1 a.2.2.2.2)
noncomputable def saneCheck1_res : List StSh := [⟨.ret, [0], (.cons .bool .nil), (.cons (.bcells 0 false 1 (.cons (.sl true false yA) (.cons (.sl true true yB) (.cons (.sl true true yC) (.cons (.sl true false (.int .u64)) (.cons (.sl true false .str) .nil)))))) (.cons (.bcells 0 false 1 (.cons (.sl true true yD) (.cons (.int .i64) (.cons (.int .i64) (.cons (.sl true true yD) (.cons (.sl true true yE) .nil)))))) .nil))⟩]
noncomputable def saneCheck1_tbl (n : Nat) : FuncId → List Entry := fun f => bif Nat.beq f 29 then [saneNames_E n] else []
noncomputable def saneCheck1_loops (n : Nat) : Nat → Option LEntry := fun f => none
theorem saneCheck1_run (n : Nat) (i_0 : Int) (i_0_1 : Int) (i_0_2 : Int) (m0 : DG) (m0_1 : DH) (m0_2 : DI) (m0_3 : DC) (m0_4 : DD) (m1 : DA) (m1_1 : Int) (m1_2 : Int) (m1_3 : DA) (m1_4 : DB) : funDS (real _) tab (saneCheck1_tbl n) (saneCheck1_loops n) saneCheck1_an Try.f28 2 saneCheck1_a saneCheck1_res ((i_0, (i_0_1, i_0_2)), ((m0, (m0_1, (m0_2, (m0_3, m0_4)))), (m1, (m1_1, (m1_2, (m1_3, m1_4)))))) some = saneCheck1 n i_0 i_0_1 i_0_2 m0 m0_1 m0_2 m0_3 m0_4 m1 m1_1 m1_2 m1_3 m1_4 := by kernel_rfl
noncomputable def saneCheck1_E (n : Nat) : Entry := ⟨saneCheck1_a, saneCheck1_res, fun d => saneCheck1 n d.1.1 d.1.2.1 d.1.2.2 d.2.1.1 d.2.1.2.1 d.2.1.2.2.1 d.2.1.2.2.2.1 d.2.1.2.2.2.2 d.2.2.1 d.2.2.2.1 d.2.2.2.2.1 d.2.2.2.2.2.1 d.2.2.2.2.2.2⟩
theorem saneCheck1_ok (n : Nat) : EOK Try.prog 28 (saneCheck1_E n) :=
  EOK.ofS prog_names prog_mixed tab_ok (tbl := saneCheck1_tbl n) (loops := saneCheck1_loops n) (an := saneCheck1_an) (old := [some true, some true]) (n := n) (c := saneCheck1_c) (fn := Try.f28) (TblOK.cons (AllE.cons (saneNames_ok n) AllE.nil) TblOK.nil) (by kernel_rfl) (by kernel_rfl) (by kernel_rfl) (by kernel_rfl) (fun d => by kernel_rfl) LT.nil (fun a => saneCheck1_run n a.1.1 a.1.2.1 a.1.2.2 a.2.1.1 a.2.1.2.1 a.2.1.2.2.1 a.2.1.2.2.2.1 a.2.1.2.2.2.2 a.2.2.1 a.2.2.2.1 a.2.2.2.2.1 a.2.2.2.2.2.1 a.2.2.2.2.2.2)
noncomputable def IndexFuncInstrv1_h0 : List StSh := [⟨.normal, [0, 1, 7, 8], (.cons (.sl true true yE) (.cons (.fn 28 .nil (.cons (.ptr 0 0 0 0) (.cons (.ptr 1 0 0 0) .nil))) (.cons (.int .i64) (.cons (.int .i64) .nil)))), (.cons (.bcells 0 false 1 (.cons (.sl true false yA) (.cons (.sl true true yB) (.cons (.sl true true yC) (.cons (.sl true false (.int .u64)) (.cons (.sl true false .str) .nil)))))) (.cons (.bcells 0 false 1 (.cons (.sl true true yD) (.cons (.int .i64) (.cons (.int .i64) (.cons (.sl true true yD) (.cons (.sl true true yE) .nil)))))) .nil))⟩]
noncomputable def IndexFuncInstrv1_o0 : List StSh := [⟨.ret, [4], (.cons (.int .i64) .nil), (.cons (.bcells 0 false 1 (.cons (.sl true false yA) (.cons (.sl true true yB) (.cons (.sl true true yC) (.cons (.sl true false (.int .u64)) (.cons (.sl true false .str) .nil)))))) (.cons (.bcells 0 false 1 (.cons (.sl true true yD) (.cons (.int .i64) (.cons (.int .i64) (.cons (.sl true true yD) (.cons (.sl true true yE) .nil)))))) .nil))⟩, ⟨.exit 0, [], .nil, (.cons (.bcells 0 false 1 (.cons (.sl true false yA) (.cons (.sl true true yB) (.cons (.sl true true yC) (.cons (.sl true false (.int .u64)) (.cons (.sl true false .str) .nil)))))) (.cons (.bcells 0 false 1 (.cons (.sl true true yD) (.cons (.int .i64) (.cons (.int .i64) (.cons (.sl true true yD) (.cons (.sl true true yE) .nil)))))) .nil))⟩]
noncomputable def IndexFuncInstrv1_L0 (n : Nat) : LEntry := ⟨IndexFuncInstrv1_h0, IndexFuncInstrv1_o0, IndexFuncInstrv1_W0 n⟩
noncomputable def IndexFuncInstrv1_res : List StSh := [⟨.ret, [0], (.cons (.int .i64) .nil), (.cons (.bcells 0 false 1 (.cons (.sl true false yA) (.cons (.sl true true yB) (.cons (.sl true true yC) (.cons (.sl true false (.int .u64)) (.cons (.sl true false .str) .nil)))))) (.cons (.bcells 0 false 1 (.cons (.sl true true yD) (.cons (.int .i64) (.cons (.int .i64) (.cons (.sl true true yD) (.cons (.sl true true yE) .nil)))))) .nil))⟩]
noncomputable def IndexFuncInstrv1_tbl (n : Nat) : FuncId → List Entry := fun f => bif Nat.beq f 28 then [saneCheck1_E n] else []
noncomputable def IndexFuncInstrv1_loops (n : Nat) : Nat → Option LEntry := fun f => bif Nat.beq f 0 then some (IndexFuncInstrv1_L0 n) else none
theorem IndexFuncInstrv1_r0 (n : Nat) (s_0 : DB) (t7 : Int) (t8 : Int) (m0 : DG) (m0_1 : DH) (m0_2 : DI) (m0_3 : DC) (m0_4 : DD) (m1 : DA) (m1_1 : Int) (m1_2 : Int) (m1_3 : DA) (m1_4 : DB) : roundK (real _) tab (IndexFuncInstrv1_tbl n) (IndexFuncInstrv1_loops n) IndexFuncInstrv1_an [some true, some true] IndexFuncInstrv1_l0 0 [0, 1, 7, 8] IndexFuncInstrv1_h0 IndexFuncInstrv1_o0 ((s_0, (t7, t8)), ((m0, (m0_1, (m0_2, (m0_3, m0_4)))), (m1, (m1_1, (m1_2, (m1_3, m1_4)))))) some = IndexFuncInstrv1_B0 n s_0 t7 t8 m0 m0_1 m0_2 m0_3 m0_4 m1 m1_1 m1_2 m1_3 m1_4 := by kernel_rfl
theorem IndexFuncInstrv1_f0 (n : Nat) : LoopFact tab (IndexFuncInstrv1_tbl n) (IndexFuncInstrv1_loops n) IndexFuncInstrv1_an [some true, some true] n 0 IndexFuncInstrv1_l0 (IndexFuncInstrv1_L0 n) := ⟨[0, 1, 7, 8], fun s => IndexFuncInstrv1_B0 n s.1.1 s.1.2.1 s.1.2.2 s.2.1.1 s.2.1.2.1 s.2.1.2.2.1 s.2.1.2.2.2.1 s.2.1.2.2.2.2 s.2.2.1 s.2.2.2.1 s.2.2.2.2.1 s.2.2.2.2.2.1 s.2.2.2.2.2.2, by kernel_rfl, by kernel_rfl, fun s => rfl, fun s => IndexFuncInstrv1_r0 n s.1.1 s.1.2.1 s.1.2.2 s.2.1.1 s.2.1.2.1 s.2.1.2.2.1 s.2.1.2.2.2.1 s.2.1.2.2.2.2 s.2.2.1 s.2.2.2.1 s.2.2.2.2.1 s.2.2.2.2.2.1 s.2.2.2.2.2.2⟩
theorem IndexFuncInstrv1_run (n : Nat) (s_0 : DB) (m0 : DG) (m0_1 : DH) (m0_2 : DI) (m0_3 : DC) (m0_4 : DD) (m1 : DA) (m1_1 : Int) (m1_2 : Int) (m1_3 : DA) (m1_4 : DB) : funDS (real _) tab (IndexFuncInstrv1_tbl n) (IndexFuncInstrv1_loops n) IndexFuncInstrv1_an Try.f82 2 IndexFuncInstrv1_a IndexFuncInstrv1_res (s_0, ((m0, (m0_1, (m0_2, (m0_3, m0_4)))), (m1, (m1_1, (m1_2, (m1_3, m1_4)))))) some = IndexFuncInstrv1 n s_0 m0 m0_1 m0_2 m0_3 m0_4 m1 m1_1 m1_2 m1_3 m1_4 := by kernel_rfl
noncomputable def IndexFuncInstrv1_E (n : Nat) : Entry := ⟨IndexFuncInstrv1_a, IndexFuncInstrv1_res, fun d => IndexFuncInstrv1 n d.1 d.2.1.1 d.2.1.2.1 d.2.1.2.2.1 d.2.1.2.2.2.1 d.2.1.2.2.2.2 d.2.2.1 d.2.2.2.1 d.2.2.2.2.1 d.2.2.2.2.2.1 d.2.2.2.2.2.2⟩
theorem IndexFuncInstrv1_ok (n : Nat) : EOK Try.prog 82 (IndexFuncInstrv1_E n) :=
  EOK.ofS prog_names prog_mixed tab_ok (tbl := IndexFuncInstrv1_tbl n) (loops := IndexFuncInstrv1_loops n) (an := IndexFuncInstrv1_an) (old := [some true, some true]) (n := n) (c := IndexFuncInstrv1_c) (fn := Try.f82) (TblOK.cons (AllE.cons (saneCheck1_ok n) AllE.nil) TblOK.nil) (by kernel_rfl) (by kernel_rfl) (by kernel_rfl) (by kernel_rfl) (fun d => by kernel_rfl) (LT.cons (by kernel_rfl) (IndexFuncInstrv1_f0 n) LT.nil) (fun a => IndexFuncInstrv1_run n a.1 a.2.1.1 a.2.1.2.1 a.2.1.2.2.1 a.2.1.2.2.2.1 a.2.1.2.2.2.2 a.2.2.1 a.2.2.2.1 a.2.2.2.2.1 a.2.2.2.2.2.1 a.2.2.2.2.2.2)
noncomputable def ContainsFuncInstrv1_res : List StSh := [⟨.ret, [0], (.cons .bool .nil), (.cons (.bcells 0 false 1 (.cons (.sl true false yA) (.cons (.sl true true yB) (.cons (.sl true true yC) (.cons (.sl true false (.int .u64)) (.cons (.sl true false .str) .nil)))))) (.cons (.bcells 0 false 1 (.cons (.sl true true yD) (.cons (.int .i64) (.cons (.int .i64) (.cons (.sl true true yD) (.cons (.sl true true yE) .nil)))))) .nil))⟩]
noncomputable def ContainsFuncInstrv1_tbl (n : Nat) : FuncId → List Entry := fun f => bif Nat.beq f 82 then [IndexFuncInstrv1_E n] else []
noncomputable def ContainsFuncInstrv1_loops (n : Nat) : Nat → Option LEntry := fun f => none
theorem ContainsFuncInstrv1_run (n : Nat) (s_0 : DB) (m0 : DG) (m0_1 : DH) (m0_2 : DI) (m0_3 : DC) (m0_4 : DD) (m1 : DA) (m1_1 : Int) (m1_2 : Int) (m1_3 : DA) (m1_4 : DB) : funDS (real _) tab (ContainsFuncInstrv1_tbl n) (ContainsFuncInstrv1_loops n) ContainsFuncInstrv1_an Try.f30 2 ContainsFuncInstrv1_a ContainsFuncInstrv1_res (s_0, ((m0, (m0_1, (m0_2, (m0_3, m0_4)))), (m1, (m1_1, (m1_2, (m1_3, m1_4)))))) some = ContainsFuncInstrv1 n s_0 m0 m0_1 m0_2 m0_3 m0_4 m1 m1_1 m1_2 m1_3 m1_4 := by kernel_rfl
noncomputable def ContainsFuncInstrv1_E (n : Nat) : Entry := ⟨ContainsFuncInstrv1_a, ContainsFuncInstrv1_res, fun d => ContainsFuncInstrv1 n d.1 d.2.1.1 d.2.1.2.1 d.2.1.2.2.1 d.2.1.2.2.2.1 d.2.1.2.2.2.2 d.2.2.1 d.2.2.2.1 d.2.2.2.2.1 d.2.2.2.2.2.1 d.2.2.2.2.2.2⟩
theorem ContainsFuncInstrv1_ok (n : Nat) : EOK Try.prog 30 (ContainsFuncInstrv1_E n) :=
  EOK.ofS prog_names prog_mixed tab_ok (tbl := ContainsFuncInstrv1_tbl n) (loops := ContainsFuncInstrv1_loops n) (an := ContainsFuncInstrv1_an) (old := [some true, some true]) (n := n) (c := ContainsFuncInstrv1_c) (fn := Try.f30) (TblOK.cons (AllE.cons (IndexFuncInstrv1_ok n) AllE.nil) TblOK.nil) (by kernel_rfl) (by kernel_rfl) (by kernel_rfl) (by kernel_rfl) (fun d => by kernel_rfl) LT.nil (fun a => ContainsFuncInstrv1_run n a.1 a.2.1.1 a.2.1.2.1 a.2.1.2.2.1 a.2.1.2.2.2.1 a.2.1.2.2.2.2 a.2.2.1 a.2.2.2.1 a.2.2.2.2.1 a.2.2.2.2.2.1 a.2.2.2.2.2.2)
noncomputable def ContainsFuncTypev1_an : Ann := {}
noncomputable def ContainsFuncTypev1_c : Code := (match Try.f31.body with | some c => c | none => .skip)
noncomputable def ContainsFuncTypev1_a : StSh := ⟨.normal, [0, 1], (.cons (.sl true true yD) (.cons (.fn 32 .nil .nil) .nil)), .nil⟩
noncomputable def IndexFuncTypev1_an : Ann := { live := [(0, [0, 1, 7, 8])] }
noncomputable def IndexFuncTypev1_c : Code := (match Try.f83.body with | some c => c | none => .skip)
noncomputable def IndexFuncTypev1_l0 : Code := (match assoc 0 (loopsIn IndexFuncTypev1_c 0) with | some c => c | none => .skip)
noncomputable def IndexFuncTypev1_a : StSh := ⟨.normal, [0, 1], (.cons (.sl true true yD) (.cons (.fn 32 .nil .nil) .nil)), .nil⟩
noncomputable def saneCheck2_an : Ann := {}
noncomputable def saneCheck2_c : Code := (match Try.f32.body with | some c => c | none => .skip)
noncomputable def saneCheck2_a : StSh := ⟨.normal, [0], (.cons (.agg (.cons (.int .i64) (.cons (.int .i64) .nil))) .nil), .nil⟩
noncomputable def saneCheck2_res : List StSh := [⟨.ret, [0], (.cons .bool .nil), .nil⟩]
noncomputable def saneCheck2_tbl (n : Nat) : FuncId → List Entry := fun f => []
noncomputable def saneCheck2_loops (n : Nat) : Nat → Option LEntry := fun f => none
theorem saneCheck2_run (n : Nat) (t_0 : Int) (t_0_1 : Int) : funDS (real _) tab (saneCheck2_tbl n) (saneCheck2_loops n) saneCheck2_an Try.f32 0 saneCheck2_a saneCheck2_res (t_0, t_0_1) some = saneCheck2 n t_0 t_0_1 := by kernel_rfl
noncomputable def saneCheck2_E (n : Nat) : Entry := ⟨saneCheck2_a, saneCheck2_res, fun d => saneCheck2 n d.1 d.2⟩
theorem saneCheck2_ok (n : Nat) : EOK Try.prog 32 (saneCheck2_E n) :=
  EOK.ofS prog_names prog_mixed tab_ok (tbl := saneCheck2_tbl n) (loops := saneCheck2_loops n) (an := saneCheck2_an) (old := []) (n := n) (c := saneCheck2_c) (fn := Try.f32) TblOK.nil (by kernel_rfl) (by kernel_rfl) (by kernel_rfl) (by kernel_rfl) (fun d => by kernel_rfl) LT.nil (fun a => saneCheck2_run n a.1 a.2)
noncomputable def IndexFuncTypev1_h0 : List StSh := [⟨.normal, [0, 1, 7, 8], (.cons (.sl true true yD) (.cons (.fn 32 .nil .nil) (.cons (.int .i64) (.cons (.int .i64) .nil)))), .nil⟩]
noncomputable def IndexFuncTypev1_o0 : List StSh := [⟨.ret, [4], (.cons (.int .i64) .nil), .nil⟩, ⟨.exit 0, [], .nil, .nil⟩]
noncomputable def IndexFuncTypev1_L0 (n : Nat) : LEntry := ⟨IndexFuncTypev1_h0, IndexFuncTypev1_o0, IndexFuncTypev1_W0 n⟩
noncomputable def IndexFuncTypev1_res : List StSh := [⟨.ret, [0], (.cons (.int .i64) .nil), .nil⟩]
noncomputable def IndexFuncTypev1_tbl (n : Nat) : FuncId → List Entry := fun f => bif Nat.beq f 32 then [saneCheck2_E n] else []
noncomputable def IndexFuncTypev1_loops (n : Nat) : Nat → Option LEntry := fun f => bif Nat.beq f 0 then some (IndexFuncTypev1_L0 n) else none
theorem IndexFuncTypev1_r0 (n : Nat) (s_0 : DA) (t7 : Int) (t8 : Int) : roundK (real _) tab (IndexFuncTypev1_tbl n) (IndexFuncTypev1_loops n) IndexFuncTypev1_an [] IndexFuncTypev1_l0 0 [0, 1, 7, 8] IndexFuncTypev1_h0 IndexFuncTypev1_o0 (s_0, (t7, t8)) some = IndexFuncTypev1_B0 n s_0 t7 t8 := by kernel_rfl
theorem IndexFuncTypev1_f0 (n : Nat) : LoopFact tab (IndexFuncTypev1_tbl n) (IndexFuncTypev1_loops n) IndexFuncTypev1_an [] n 0 IndexFuncTypev1_l0 (IndexFuncTypev1_L0 n) := ⟨[0, 1, 7, 8], fun s => IndexFuncTypev1_B0 n s.1 s.2.1 s.2.2, by kernel_rfl, by kernel_rfl, fun s => rfl, fun s => IndexFuncTypev1_r0 n s.1 s.2.1 s.2.2⟩
theorem IndexFuncTypev1_run (n : Nat) (s_0 : DA) : funDS (real _) tab (IndexFuncTypev1_tbl n) (IndexFuncTypev1_loops n) IndexFuncTypev1_an Try.f83 0 IndexFuncTypev1_a IndexFuncTypev1_res s_0 some = IndexFuncTypev1 n s_0 := by kernel_rfl
noncomputable def IndexFuncTypev1_E (n : Nat) : Entry := ⟨IndexFuncTypev1_a, IndexFuncTypev1_res, fun d => IndexFuncTypev1 n d⟩
theorem IndexFuncTypev1_ok (n : Nat) : EOK Try.prog 83 (IndexFuncTypev1_E n) :=
  EOK.ofS prog_names prog_mixed tab_ok (tbl := IndexFuncTypev1_tbl n) (loops := IndexFuncTypev1_loops n) (an := IndexFuncTypev1_an) (old := []) (n := n) (c := IndexFuncTypev1_c) (fn := Try.f83) (TblOK.cons (AllE.cons (saneCheck2_ok n) AllE.nil) TblOK.nil) (by kernel_rfl) (by kernel_rfl) (by kernel_rfl) (by kernel_rfl) (fun d => by kernel_rfl) (LT.cons (by kernel_rfl) (IndexFuncTypev1_f0 n) LT.nil) (fun a => IndexFuncTypev1_run n a)
noncomputable def ContainsFuncTypev1_res : List StSh := [⟨.ret, [0], (.cons .bool .nil), .nil⟩]
noncomputable def ContainsFuncTypev1_tbl (n : Nat) : FuncId → List Entry := fun f => bif Nat.beq f 83 then [IndexFuncTypev1_E n] else []
noncomputable def ContainsFuncTypev1_loops (n : Nat) : Nat → Option LEntry := fun f => none
theorem ContainsFuncTypev1_run (n : Nat) (s_0 : DA) : funDS (real _) tab (ContainsFuncTypev1_tbl n) (ContainsFuncTypev1_loops n) ContainsFuncTypev1_an Try.f31 0 ContainsFuncTypev1_a ContainsFuncTypev1_res s_0 some = ContainsFuncTypev1 n s_0 := by kernel_rfl
noncomputable def ContainsFuncTypev1_E (n : Nat) : Entry := ⟨ContainsFuncTypev1_a, ContainsFuncTypev1_res, fun d => ContainsFuncTypev1 n d⟩
theorem ContainsFuncTypev1_ok (n : Nat) : EOK Try.prog 31 (ContainsFuncTypev1_E n) :=
  EOK.ofS prog_names prog_mixed tab_ok (tbl := ContainsFuncTypev1_tbl n) (loops := ContainsFuncTypev1_loops n) (an := ContainsFuncTypev1_an) (old := []) (n := n) (c := ContainsFuncTypev1_c) (fn := Try.f31) (TblOK.cons (AllE.cons (IndexFuncTypev1_ok n) AllE.nil) TblOK.nil) (by kernel_rfl) (by kernel_rfl) (by kernel_rfl) (by kernel_rfl) (fun d => by kernel_rfl) LT.nil (fun a => ContainsFuncTypev1_run n a)
noncomputable def saneCheck_h0 : List StSh := [⟨.normal, [1, 18, 19, 20], (.cons (.ptr 0 0 0 0) (.cons (.sl true true yB) (.cons (.int .i64) (.cons (.int .i64) .nil)))), (.cons (.bcells 0 false 1 (.cons (.sl true false yA) (.cons (.sl true true yB) (.cons (.sl true true yC) (.cons (.sl true false (.int .u64)) (.cons (.sl true false .str) .nil)))))) .nil)⟩]
noncomputable def saneCheck_o0 : List StSh := [⟨.ret, [2], (.cons (.int .i64) .nil), (.cons (.bcells 0 false 1 (.cons (.sl true false yA) (.cons (.sl true true yB) (.cons (.sl true true yC) (.cons (.sl true false (.int .u64)) (.cons (.sl true false .str) .nil)))))) (.cons (.bcells 0 false 1 (.cons (.sl true true yD) (.cons (.int .i64) (.cons (.int .i64) (.cons (.sl true true yD) (.cons (.sl true true yE) .nil)))))) .nil))⟩, ⟨.exit 0, [1], (.cons (.ptr 0 0 0 0) .nil), (.cons (.bcells 0 false 1 (.cons (.sl true false yA) (.cons (.sl true true yB) (.cons (.sl true true yC) (.cons (.sl true false (.int .u64)) (.cons (.sl true false .str) .nil)))))) .nil)⟩]
noncomputable def saneCheck_L0 (n : Nat) : LEntry := ⟨saneCheck_h0, saneCheck_o0, saneCheck_W0 n⟩
noncomputable def ContainsFuncImportv1_an : Ann := {}
noncomputable def ContainsFuncImportv1_c : Code := (match Try.f36.body with | some c => c | none => .skip)
noncomputable def ContainsFuncImportv1_a : StSh := ⟨.normal, [0, 1], (.cons (.sl true true yC) (.cons (.fn 33 .nil .nil) .nil)), .nil⟩
noncomputable def IndexFuncImportv1_an : Ann := { live := [(0, [0, 1, 7, 8])] }
noncomputable def IndexFuncImportv1_c : Code := (match Try.f84.body with | some c => c | none => .skip)
noncomputable def IndexFuncImportv1_l0 : Code := (match assoc 0 (loopsIn IndexFuncImportv1_c 0) with | some c => c | none => .skip)
noncomputable def IndexFuncImportv1_a : StSh := ⟨.normal, [0, 1], (.cons (.sl true true yC) (.cons (.fn 33 .nil .nil) .nil)), .nil⟩
noncomputable def saneCheck3_an : Ann := {}
noncomputable def saneCheck3_c : Code := (match Try.f33.body with | some c => c | none => .skip)
noncomputable def saneCheck3_a : StSh := ⟨.normal, [0], (.cons (.agg (.cons (.sl true true yD) (.cons (.int .i64) (.cons (.int .i64) .nil)))) .nil), .nil⟩
noncomputable def saneHost_an : Ann := {}
noncomputable def saneHost_c : Code := (match Try.f34.body with | some c => c | none => .skip)
noncomputable def saneHost_a : StSh := ⟨.normal, [0], (.cons (.agg (.cons (.int .i64) (.cons (.int .i64) .nil))) .nil), .nil⟩
noncomputable def saneHost_res : List StSh := [⟨.ret, [0], (.cons .bool .nil), .nil⟩]
noncomputable def saneHost_tbl (n : Nat) : FuncId → List Entry := fun f => []
noncomputable def saneHost_loops (n : Nat) : Nat → Option LEntry := fun f => none
theorem saneHost_run (n : Nat) (t_0 : Int) (t_0_1 : Int) : funDS (real _) tab (saneHost_tbl n) (saneHost_loops n) saneHost_an Try.f34 0 saneHost_a saneHost_res (t_0, t_0_1) some = saneHost n t_0 t_0_1 := by kernel_rfl
noncomputable def saneHost_E (n : Nat) : Entry := ⟨saneHost_a, saneHost_res, fun d => saneHost n d.1 d.2⟩
theorem saneHost_ok (n : Nat) : EOK Try.prog 34 (saneHost_E n) :=
  EOK.ofS prog_names prog_mixed tab_ok (tbl := saneHost_tbl n) (loops := saneHost_loops n) (an := saneHost_an) (old := []) (n := n) (c := saneHost_c) (fn := Try.f34) TblOK.nil (by kernel_rfl) (by kernel_rfl) (by kernel_rfl) (by kernel_rfl) (fun d => by kernel_rfl) LT.nil (fun a => saneHost_run n a.1 a.2)
noncomputable def ContainsFuncTypev2_an : Ann := {}
noncomputable def ContainsFuncTypev2_c : Code := (match Try.f31.body with | some c => c | none => .skip)
noncomputable def ContainsFuncTypev2_a : StSh := ⟨.normal, [0, 1], (.cons (.sl true true yD) (.cons (.fn 35 .nil .nil) .nil)), .nil⟩
noncomputable def IndexFuncTypev2_an : Ann := { live := [(0, [0, 1, 7, 8])] }
noncomputable def IndexFuncTypev2_c : Code := (match Try.f83.body with | some c => c | none => .skip)
noncomputable def IndexFuncTypev2_l0 : Code := (match assoc 0 (loopsIn IndexFuncTypev2_c 0) with | some c => c | none => .skip)
noncomputable def IndexFuncTypev2_a : StSh := ⟨.normal, [0, 1], (.cons (.sl true true yD) (.cons (.fn 35 .nil .nil) .nil)), .nil⟩
noncomputable def saneCheck31_an : Ann := {}
noncomputable def saneCheck31_c : Code := (match Try.f35.body with | some c => c | none => .skip)
noncomputable def saneCheck31_a : StSh := ⟨.normal, [0], (.cons (.agg (.cons (.int .i64) (.cons (.int .i64) .nil))) .nil), .nil⟩
noncomputable def saneCheck31_res : List StSh := [⟨.ret, [0], (.cons .bool .nil), .nil⟩]
noncomputable def saneCheck31_tbl (n : Nat) : FuncId → List Entry := fun f => bif Nat.beq f 34 then [saneHost_E n] else []
noncomputable def saneCheck31_loops (n : Nat) : Nat → Option LEntry := fun f => none
theorem saneCheck31_run (n : Nat) (t_0 : Int) (t_0_1 : Int) : funDS (real _) tab (saneCheck31_tbl n) (saneCheck31_loops n) saneCheck31_an Try.f35 0 saneCheck31_a saneCheck31_res (t_0, t_0_1) some = saneCheck31 n t_0 t_0_1 := by kernel_rfl
noncomputable def saneCheck31_E (n : Nat) : Entry := ⟨saneCheck31_a, saneCheck31_res, fun d => saneCheck31 n d.1 d.2⟩
theorem saneCheck31_ok (n : Nat) : EOK Try.prog 35 (saneCheck31_E n) :=
  EOK.ofS prog_names prog_mixed tab_ok (tbl := saneCheck31_tbl n) (loops := saneCheck31_loops n) (an := saneCheck31_an) (old := []) (n := n) (c := saneCheck31_c) (fn := Try.f35) (TblOK.cons (AllE.cons (saneHost_ok n) AllE.nil) TblOK.nil) (by kernel_rfl) (by kernel_rfl) (by kernel_rfl) (by kernel_rfl) (fun d => by kernel_rfl) LT.nil (fun a => saneCheck31_run n a.1 a.2)
noncomputable def IndexFuncTypev2_h0 : List StSh := [⟨.normal, [0, 1, 7, 8], (.cons (.sl true true yD) (.cons (.fn 35 .nil .nil) (.cons (.int .i64) (.cons (.int .i64) .nil)))), .nil⟩]
noncomputable def IndexFuncTypev2_o0 : List StSh := [⟨.ret, [4], (.cons (.int .i64) .nil), .nil⟩, ⟨.exit 0, [], .nil, .nil⟩]
noncomputable def IndexFuncTypev2_L0 (n : Nat) : LEntry := ⟨IndexFuncTypev2_h0, IndexFuncTypev2_o0, IndexFuncTypev2_W0 n⟩
noncomputable def IndexFuncTypev2_res : List StSh := [⟨.ret, [0], (.cons (.int .i64) .nil), .nil⟩]
noncomputable def IndexFuncTypev2_tbl (n : Nat) : FuncId → List Entry := fun f => bif Nat.beq f 35 then [saneCheck31_E n] else []
noncomputable def IndexFuncTypev2_loops (n : Nat) : Nat → Option LEntry := fun f => bif Nat.beq f 0 then some (IndexFuncTypev2_L0 n) else none
theorem IndexFuncTypev2_r0 (n : Nat) (s_0 : DA) (t7 : Int) (t8 : Int) : roundK (real _) tab (IndexFuncTypev2_tbl n) (IndexFuncTypev2_loops n) IndexFuncTypev2_an [] IndexFuncTypev2_l0 0 [0, 1, 7, 8] IndexFuncTypev2_h0 IndexFuncTypev2_o0 (s_0, (t7, t8)) some = IndexFuncTypev2_B0 n s_0 t7 t8 := by kernel_rfl
theorem IndexFuncTypev2_f0 (n : Nat) : LoopFact tab (IndexFuncTypev2_tbl n) (IndexFuncTypev2_loops n) IndexFuncTypev2_an [] n 0 IndexFuncTypev2_l0 (IndexFuncTypev2_L0 n) := ⟨[0, 1, 7, 8], fun s => IndexFuncTypev2_B0 n s.1 s.2.1 s.2.2, by kernel_rfl, by kernel_rfl, fun s => rfl, fun s => IndexFuncTypev2_r0 n s.1 s.2.1 s.2.2⟩
theorem IndexFuncTypev2_run (n : Nat) (s_0 : DA) : funDS (real _) tab (IndexFuncTypev2_tbl n) (IndexFuncTypev2_loops n) IndexFuncTypev2_an Try.f83 0 IndexFuncTypev2_a IndexFuncTypev2_res s_0 some = IndexFuncTypev2 n s_0 := by kernel_rfl
noncomputable def IndexFuncTypev2_E (n : Nat) : Entry := ⟨IndexFuncTypev2_a, IndexFuncTypev2_res, fun d => IndexFuncTypev2 n d⟩
theorem IndexFuncTypev2_ok (n : Nat) : EOK Try.prog 83 (IndexFuncTypev2_E n) :=
  EOK.ofS prog_names prog_mixed tab_ok (tbl := IndexFuncTypev2_tbl n) (loops := IndexFuncTypev2_loops n) (an := IndexFuncTypev2_an) (old := []) (n := n) (c := IndexFuncTypev2_c) (fn := Try.f83) (TblOK.cons (AllE.cons (saneCheck31_ok n) AllE.nil) TblOK.nil) (by kernel_rfl) (by kernel_rfl) (by kernel_rfl) (by kernel_rfl) (fun d => by kernel_rfl) (LT.cons (by kernel_rfl) (IndexFuncTypev2_f0 n) LT.nil) (fun a => IndexFuncTypev2_run n a)
noncomputable def ContainsFuncTypev2_res : List StSh := [⟨.ret, [0], (.cons .bool .nil), .nil⟩]
noncomputable def ContainsFuncTypev2_tbl (n : Nat) : FuncId → List Entry := fun f => bif Nat.beq f 83 then [IndexFuncTypev2_E n] else []
noncomputable def ContainsFuncTypev2_loops (n : Nat) : Nat → Option LEntry := fun f => none
theorem ContainsFuncTypev2_run (n : Nat) (s_0 : DA) : funDS (real _) tab (ContainsFuncTypev2_tbl n) (ContainsFuncTypev2_loops n) ContainsFuncTypev2_an Try.f31 0 ContainsFuncTypev2_a ContainsFuncTypev2_res s_0 some = ContainsFuncTypev2 n s_0 := by kernel_rfl
noncomputable def ContainsFuncTypev2_E (n : Nat) : Entry := ⟨ContainsFuncTypev2_a, ContainsFuncTypev2_res, fun d => ContainsFuncTypev2 n d⟩
theorem ContainsFuncTypev2_ok (n : Nat) : EOK Try.prog 31 (ContainsFuncTypev2_E n) :=
  EOK.ofS prog_names prog_mixed tab_ok (tbl := ContainsFuncTypev2_tbl n) (loops := ContainsFuncTypev2_loops n) (an := ContainsFuncTypev2_an) (old := []) (n := n) (c := ContainsFuncTypev2_c) (fn := Try.f31) (TblOK.cons (AllE.cons (IndexFuncTypev2_ok n) AllE.nil) TblOK.nil) (by kernel_rfl) (by kernel_rfl) (by kernel_rfl) (by kernel_rfl) (fun d => by kernel_rfl) LT.nil (fun a => ContainsFuncTypev2_run n a)
noncomputable def saneCheck3_res : List StSh := [⟨.ret, [0], (.cons .bool .nil), .nil⟩]
noncomputable def saneCheck3_tbl (n : Nat) : FuncId → List Entry := fun f => bif Nat.beq f 34 then [saneHost_E n] else bif Nat.beq f 31 then [ContainsFuncTypev2_E n] else []
noncomputable def saneCheck3_loops (n : Nat) : Nat → Option LEntry := fun f => none
theorem saneCheck3_run (n : Nat) (i_0 : DA) (i_0_1 : Int) (i_0_2 : Int) : funDS (real _) tab (saneCheck3_tbl n) (saneCheck3_loops n) saneCheck3_an Try.f33 0 saneCheck3_a saneCheck3_res (i_0, (i_0_1, i_0_2)) some = saneCheck3 n i_0 i_0_1 i_0_2 := by kernel_rfl
noncomputable def saneCheck3_E (n : Nat) : Entry := ⟨saneCheck3_a, saneCheck3_res, fun d => saneCheck3 n d.1 d.2.1 d.2.2⟩
theorem saneCheck3_ok (n : Nat) : EOK Try.prog 33 (saneCheck3_E n) :=
  EOK.ofS prog_names prog_mixed tab_ok (tbl := saneCheck3_tbl n) (loops := saneCheck3_loops n) (an := saneCheck3_an) (old := []) (n := n) (c := saneCheck3_c) (fn := Try.f33) (TblOK.cons (AllE.cons (saneHost_ok n) AllE.nil) (TblOK.cons (AllE.cons (ContainsFuncTypev2_ok n) AllE.nil) TblOK.nil)) (by kernel_rfl) (by kernel_rfl) (by kernel_rfl) (by kernel_rfl) (fun d => by kernel_rfl) LT.nil (fun a => saneCheck3_run n a.1 a.2.1 a.2.2)
noncomputable def IndexFuncImportv1_h0 : List StSh := [⟨.normal, [0, 1, 7, 8], (.cons (.sl true true yC) (.cons (.fn 33 .nil .nil) (.cons (.int .i64) (.cons (.int .i64) .nil)))), .nil⟩]
noncomputable def IndexFuncImportv1_o0 : List StSh := [⟨.ret, [4], (.cons (.int .i64) .nil), .nil⟩, ⟨.exit 0, [], .nil, .nil⟩]
noncomputable def IndexFuncImportv1_L0 (n : Nat) : LEntry := ⟨IndexFuncImportv1_h0, IndexFuncImportv1_o0, IndexFuncImportv1_W0 n⟩
noncomputable def IndexFuncImportv1_res : List StSh := [⟨.ret, [0], (.cons (.int .i64) .nil), .nil⟩]
noncomputable def IndexFuncImportv1_tbl (n : Nat) : FuncId → List Entry := fun f => bif Nat.beq f 33 then [saneCheck3_E n] else []
noncomputable def IndexFuncImportv1_loops (n : Nat) : Nat → Option LEntry := fun f => bif Nat.beq f 0 then some (IndexFuncImportv1_L0 n) else none
theorem IndexFuncImportv1_r0 (n : Nat) (s_0 : DI) (t7 : Int) (t8 : Int) : roundK (real _) tab (IndexFuncImportv1_tbl n) (IndexFuncImportv1_loops n) IndexFuncImportv1_an [] IndexFuncImportv1_l0 0 [0, 1, 7, 8] IndexFuncImportv1_h0 IndexFuncImportv1_o0 (s_0, (t7, t8)) some = IndexFuncImportv1_B0 n s_0 t7 t8 := by kernel_rfl
theorem IndexFuncImportv1_f0 (n : Nat) : LoopFact tab (IndexFuncImportv1_tbl n) (IndexFuncImportv1_loops n) IndexFuncImportv1_an [] n 0 IndexFuncImportv1_l0 (IndexFuncImportv1_L0 n) := ⟨[0, 1, 7, 8], fun s => IndexFuncImportv1_B0 n s.1 s.2.1 s.2.2, by kernel_rfl, by kernel_rfl, fun s => rfl, fun s => IndexFuncImportv1_r0 n s.1 s.2.1 s.2.2⟩
theorem IndexFuncImportv1_run (n : Nat) (s_0 : DI) : funDS (real _) tab (IndexFuncImportv1_tbl n) (IndexFuncImportv1_loops n) IndexFuncImportv1_an Try.f84 0 IndexFuncImportv1_a IndexFuncImportv1_res s_0 some = IndexFuncImportv1 n s_0 := by kernel_rfl
noncomputable def IndexFuncImportv1_E (n : Nat) : Entry := ⟨IndexFuncImportv1_a, IndexFuncImportv1_res, fun d => IndexFuncImportv1 n d⟩
theorem IndexFuncImportv1_ok (n : Nat) : EOK Try.prog 84 (IndexFuncImportv1_E n) :=
  EOK.ofS prog_names prog_mixed tab_ok (tbl := IndexFuncImportv1_tbl n) (loops := IndexFuncImportv1_loops n) (an := IndexFuncImportv1_an) (old := []) (n := n) (c := IndexFuncImportv1_c) (fn := Try.f84) (TblOK.cons (AllE.cons (saneCheck3_ok n) AllE.nil) TblOK.nil) (by kernel_rfl) (by kernel_rfl) (by kernel_rfl) (by kernel_rfl) (fun d => by kernel_rfl) (LT.cons (by kernel_rfl) (IndexFuncImportv1_f0 n) LT.nil) (fun a => IndexFuncImportv1_run n a)
noncomputable def ContainsFuncImportv1_res : List StSh := [⟨.ret, [0], (.cons .bool .nil), .nil⟩]
noncomputable def ContainsFuncImportv1_tbl (n : Nat) : FuncId → List Entry := fun f => bif Nat.beq f 84 then [IndexFuncImportv1_E n] else []
noncomputable def ContainsFuncImportv1_loops (n : Nat) : Nat → Option LEntry := fun f => none
theorem ContainsFuncImportv1_run (n : Nat) (s_0 : DI) : funDS (real _) tab (ContainsFuncImportv1_tbl n) (ContainsFuncImportv1_loops n) ContainsFuncImportv1_an Try.f36 0 ContainsFuncImportv1_a ContainsFuncImportv1_res s_0 some = ContainsFuncImportv1 n s_0 := by kernel_rfl
noncomputable def ContainsFuncImportv1_E (n : Nat) : Entry := ⟨ContainsFuncImportv1_a, ContainsFuncImportv1_res, fun d => ContainsFuncImportv1 n d⟩
theorem ContainsFuncImportv1_ok (n : Nat) : EOK Try.prog 36 (ContainsFuncImportv1_E n) :=
  EOK.ofS prog_names prog_mixed tab_ok (tbl := ContainsFuncImportv1_tbl n) (loops := ContainsFuncImportv1_loops n) (an := ContainsFuncImportv1_an) (old := []) (n := n) (c := ContainsFuncImportv1_c) (fn := Try.f36) (TblOK.cons (AllE.cons (IndexFuncImportv1_ok n) AllE.nil) TblOK.nil) (by kernel_rfl) (by kernel_rfl) (by kernel_rfl) (by kernel_rfl) (fun d => by kernel_rfl) LT.nil (fun a => ContainsFuncImportv1_run n a)
noncomputable def saneCheck_res : List StSh := [⟨.ret, [0], (.cons (.int .i64) .nil), .nil⟩]
noncomputable def saneCheck_tbl (n : Nat) : FuncId → List Entry := fun f => bif Nat.beq f 20 then [moduleEncode_E n] else bif Nat.beq f 30 then [ContainsFuncInstrv1_E n] else bif Nat.beq f 31 then [ContainsFuncTypev1_E n] else bif Nat.beq f 36 then [ContainsFuncImportv1_E n] else []
noncomputable def saneCheck_loops (n : Nat) : Nat → Option LEntry := fun f => bif Nat.beq f 0 then some (saneCheck_L0 n) else none
theorem saneCheck_r0 (n : Nat) (t18 : DH) (t19 : Int) (t20 : Int) (m0 : DG) (m0_1 : DH) (m0_2 : DI) (m0_3 : DC) (m0_4 : DD) : roundK (real _) tab (saneCheck_tbl n) (saneCheck_loops n) saneCheck_an [] saneCheck_l0 0 [1, 18, 19, 20] saneCheck_h0 saneCheck_o0 ((t18, (t19, t20)), (m0, (m0_1, (m0_2, (m0_3, m0_4))))) some = saneCheck_B0 n t18 t19 t20 m0 m0_1 m0_2 m0_3 m0_4 := by kernel_rfl
theorem saneCheck_f0 (n : Nat) : LoopFact tab (saneCheck_tbl n) (saneCheck_loops n) saneCheck_an [] n 0 saneCheck_l0 (saneCheck_L0 n) := ⟨[1, 18, 19, 20], fun s => saneCheck_B0 n s.1.1 s.1.2.1 s.1.2.2 s.2.1 s.2.2.1 s.2.2.2.1 s.2.2.2.2.1 s.2.2.2.2.2, by kernel_rfl, by kernel_rfl, fun s => rfl, fun s => saneCheck_r0 n s.1.1 s.1.2.1 s.1.2.2 s.2.1 s.2.2.1 s.2.2.2.1 s.2.2.2.2.1 s.2.2.2.2.2⟩
theorem saneCheck_run (n : Nat) (m_0 : DG) (m_0_1 : DH) (m_0_2 : DI) (m_0_3 : DC) (m_0_4 : DD) : funDS (real _) tab (saneCheck_tbl n) (saneCheck_loops n) saneCheck_an Try.f12 0 saneCheck_a saneCheck_res (m_0, (m_0_1, (m_0_2, (m_0_3, m_0_4)))) some = saneCheck n m_0 m_0_1 m_0_2 m_0_3 m_0_4 := by kernel_rfl
noncomputable def saneCheck_E (n : Nat) : Entry := ⟨saneCheck_a, saneCheck_res, fun d => saneCheck n d.1 d.2.1 d.2.2.1 d.2.2.2.1 d.2.2.2.2⟩
theorem saneCheck_ok (n : Nat) : EOK Try.prog 12 (saneCheck_E n) :=
  EOK.ofS prog_names prog_mixed tab_ok (tbl := saneCheck_tbl n) (loops := saneCheck_loops n) (an := saneCheck_an) (old := []) (n := n) (c := saneCheck_c) (fn := Try.f12) (TblOK.cons (AllE.cons (moduleEncode_ok n) AllE.nil) (TblOK.cons (AllE.cons (ContainsFuncInstrv1_ok n) AllE.nil) (TblOK.cons (AllE.cons (ContainsFuncTypev1_ok n) AllE.nil) (TblOK.cons (AllE.cons (ContainsFuncImportv1_ok n) AllE.nil) TblOK.nil)))) (by kernel_rfl) (by kernel_rfl) (by kernel_rfl) (by kernel_rfl) (fun d => by kernel_rfl) (LT.cons (by kernel_rfl) (saneCheck_f0 n) LT.nil) (fun a => saneCheck_run n a.1 a.2.1 a.2.2.1 a.2.2.2.1 a.2.2.2.2)
noncomputable def law07Answers_res : List StSh := [⟨.ret, [0], (.cons .bool .nil), .nil⟩]
noncomputable def law07Answers_tbl (n : Nat) : FuncId → List Entry := fun f => bif Nat.beq f 12 then [saneCheck_E n] else []
noncomputable def law07Answers_loops (n : Nat) : Nat → Option LEntry := fun f => none
theorem law07Answers_run (n : Nat) : funDS (real _) tab (law07Answers_tbl n) (law07Answers_loops n) law07Answers_an Try.f13 0 law07Answers_a law07Answers_res () some = law07Answers n := by kernel_rfl
noncomputable def law07Answers_E (n : Nat) : Entry := ⟨law07Answers_a, law07Answers_res, fun d => law07Answers n⟩
theorem law07Answers_ok (n : Nat) : EOK Try.prog 13 (law07Answers_E n) :=
  EOK.ofS prog_names prog_mixed tab_ok (tbl := law07Answers_tbl n) (loops := law07Answers_loops n) (an := law07Answers_an) (old := []) (n := n) (c := law07Answers_c) (fn := Try.f13) (TblOK.cons (AllE.cons (saneCheck_ok n) AllE.nil) TblOK.nil) (by kernel_rfl) (by kernel_rfl) (by kernel_rfl) (by kernel_rfl) (fun d => by kernel_rfl) LT.nil (fun a => law07Answers_run n)
noncomputable def ref01Check_an : Ann := { live := [(0, [1, 5]), (2, [1, 5, 6, 7]), (4, [1, 5, 6, 8]), (6, [1, 9]), (8, [1, 9, 10, 11])] }
noncomputable def ref01Check_c : Code := (match Try.f15.body with | some c => c | none => .skip)
noncomputable def ref01Check_l0 : Code := (match assoc 0 (loopsIn ref01Check_c 0) with | some c => c | none => .skip)
noncomputable def ref01Check_l2 : Code := (match assoc 2 (loopsIn ref01Check_c 0) with | some c => c | none => .skip)
noncomputable def ref01Check_l4 : Code := (match assoc 4 (loopsIn ref01Check_c 0) with | some c => c | none => .skip)
noncomputable def ref01Check_l6 : Code := (match assoc 6 (loopsIn ref01Check_c 0) with | some c => c | none => .skip)
noncomputable def ref01Check_l8 : Code := (match assoc 8 (loopsIn ref01Check_c 0) with | some c => c | none => .skip)
noncomputable def ref01Check_a : StSh := ⟨.normal, [0], (.cons (.agg (.cons (.sl true false yA) (.cons (.sl true true yB) (.cons (.sl true true yC) (.cons (.sl true false (.int .u64)) (.cons (.sl true false .str) .nil)))))) .nil), .nil⟩
noncomputable def ref01Module_an : Ann := { live := [(0, [1, 4, 5, 6, 7]), (2, [1, 4, 5, 6, 10, 11]), (4, [1, 4, 5, 6, 10, 11, 12, 17]), (6, [1, 4, 5, 6, 10, 19, 20]), (8, [1, 5, 6, 10, 19, 23, 24]), (10, [1, 5, 6, 10, 19, 23, 25, 26])], boxed := [(10, 2), (21, 2), (21, 6), (21, 8), (21, 14), (28, 2), (35, 2), (35, 10), (40, 7), (46, 9), (46, 15)], raw := [(5, 2), (11, 4), (29, 4), (36, 4), (41, 4)] }
noncomputable def ref01Module_c : Code := (match Try.f21.body with | some c => c | none => .skip)
noncomputable def ref01Module_l0 : Code := (match assoc 0 (loopsIn ref01Module_c 0) with | some c => c | none => .skip)
noncomputable def ref01Module_l2 : Code := (match assoc 2 (loopsIn ref01Module_c 0) with | some c => c | none => .skip)
noncomputable def ref01Module_l4 : Code := (match assoc 4 (loopsIn ref01Module_c 0) with | some c => c | none => .skip)
noncomputable def ref01Module_l6 : Code := (match assoc 6 (loopsIn ref01Module_c 0) with | some c => c | none => .skip)
noncomputable def ref01Module_l8 : Code := (match assoc 8 (loopsIn ref01Module_c 0) with | some c => c | none => .skip)
noncomputable def ref01Module_l10 : Code := (match assoc 10 (loopsIn ref01Module_c 0) with | some c => c | none => .skip)
noncomputable def ref01Module_a : StSh := ⟨.normal, [0], (.cons (.agg (.cons (.sl true false yA) (.cons (.sl true true yB) (.cons (.sl true true yC) (.cons (.sl true false (.int .u64)) (.cons (.sl true false .str) .nil)))))) .nil), .nil⟩
noncomputable def ref01Var_an : Ann := { boxed := [(0, 0), (2, 2), (3, 4), (3, 8)] }
noncomputable def ref01Var_c : Code := (match Try.f46.body with | some c => c | none => .skip)
noncomputable def ref01Var_a : StSh := ⟨.normal, [0], (.cons (.int .u64) .nil), .nil⟩
noncomputable def ref01Var_res : List StSh := [⟨.ret, [0], (.cons (.msw 0 0) .nil), (.cons (.bts 0 false false false (.int .u8)) .nil)⟩]
noncomputable def ref01Var_Ed (n d : Nat) : Entry := ⟨ref01Var_a, ref01Var_res, ref01Var_D n d⟩
noncomputable def ref01Var_tbl (n d : Nat) : FuncId → List Entry := fun f => bif Nat.beq f 46 then [ref01Var_Ed n d] else []
noncomputable def ref01Var_loops (n : Nat) : Nat → Option LEntry := fun f => none
theorem ref01Var_run (n d : Nat) (v_0 : Int) : funD (real _) tab (ref01Var_tbl n d) (ref01Var_loops n) ref01Var_an Try.f46 ref01Var_a ref01Var_res v_0 some = ref01Var_D n (d + 1) v_0 := by kernel_rfl
noncomputable def ref01Var_E (n : Nat) : Entry := ⟨ref01Var_a, ref01Var_res, fun d => ref01Var n d⟩
theorem ref01Var_okd (n : Nat) (d : Nat) : EOK Try.prog 46 (ref01Var_Ed n d) :=
  Nat.rec (EOK.none (by kernel_rfl) fun _ => rfl) (fun d ih => EOK.of prog_names prog_mixed tab_ok (tbl := ref01Var_tbl n d) (loops := ref01Var_loops n) (an := ref01Var_an) (old := []) (n := n) (c := ref01Var_c) (fn := Try.f46) (TblOK.cons (AllE.cons ih AllE.nil) TblOK.nil) (by kernel_rfl) (by kernel_rfl) (by kernel_rfl) (by kernel_rfl) (fun d => by kernel_rfl) LT.nil (fun a => ref01Var_run n d a)) d
theorem ref01Var_ok (n : Nat) : EOK Try.prog 46 (ref01Var_E n) := ref01Var_okd n n
noncomputable def ref01Types_an : Ann := { live := [(0, [0, 1, 2, 8, 9])], boxed := [(7, 6)], raw := [(1, 3)] }
noncomputable def ref01Types_c : Code := (match Try.f47.body with | some c => c | none => .skip)
noncomputable def ref01Types_l0 : Code := (match assoc 0 (loopsIn ref01Types_c 0) with | some c => c | none => .skip)
noncomputable def ref01Types_a : StSh := ⟨.normal, [0, 1, 2], (.cons (.sl true true yD) (.cons (.int .i64) (.cons (.int .i64) .nil))), .nil⟩
noncomputable def ref01Good_an : Ann := {}
noncomputable def ref01Good_c : Code := (match Try.f18.body with | some c => c | none => .skip)
noncomputable def ref01Good_a : StSh := ⟨.normal, [0, 1], (.cons (.agg (.cons (.int .i64) (.cons (.int .i64) .nil))) (.cons (.int .i64) .nil)), .nil⟩
noncomputable def ref01Good_res : List StSh := [⟨.ret, [0], (.cons .bool .nil), .nil⟩]
noncomputable def ref01Good_tbl (n : Nat) : FuncId → List Entry := fun f => []
noncomputable def ref01Good_loops (n : Nat) : Nat → Option LEntry := fun f => none
theorem ref01Good_run (n : Nat) (t_0 : Int) (t_0_1 : Int) (recs_1 : Int) : funDS (real _) tab (ref01Good_tbl n) (ref01Good_loops n) ref01Good_an Try.f18 0 ref01Good_a ref01Good_res ((t_0, t_0_1), recs_1) some = ref01Good n t_0 t_0_1 recs_1 := by kernel_rfl
noncomputable def ref01Good_E (n : Nat) : Entry := ⟨ref01Good_a, ref01Good_res, fun d => ref01Good n d.1.1 d.1.2 d.2⟩
theorem ref01Good_ok (n : Nat) : EOK Try.prog 18 (ref01Good_E n) :=
  EOK.ofS prog_names prog_mixed tab_ok (tbl := ref01Good_tbl n) (loops := ref01Good_loops n) (an := ref01Good_an) (old := []) (n := n) (c := ref01Good_c) (fn := Try.f18) TblOK.nil (by kernel_rfl) (by kernel_rfl) (by kernel_rfl) (by kernel_rfl) (fun d => by kernel_rfl) LT.nil (fun a => ref01Good_run n a.1.1 a.1.2 a.2)
noncomputable def ref01Type_an : Ann := { raw := [(6, 2)] }
noncomputable def ref01Type_c : Code := (match Try.f48.body with | some c => c | none => .skip)
noncomputable def ref01Type_a : StSh := ⟨.normal, [0], (.cons (.agg (.cons (.int .i64) (.cons (.int .i64) .nil))) .nil), .nil⟩
noncomputable def ref01Type_res : List StSh := [⟨.ret, [0], (.cons (.sl false false (.int .u8)) .nil), .nil⟩]
noncomputable def ref01Type_tbl (n : Nat) : FuncId → List Entry := fun f => bif Nat.beq f 46 then [ref01Var_E n] else []
noncomputable def ref01Type_loops (n : Nat) : Nat → Option LEntry := fun f => none
theorem ref01Type_run (n : Nat) (t_0 : Int) (t_0_1 : Int) : funDS (real _) tab (ref01Type_tbl n) (ref01Type_loops n) ref01Type_an Try.f48 0 ref01Type_a ref01Type_res (t_0, t_0_1) some = ref01Type n t_0 t_0_1 := by kernel_rfl
noncomputable def ref01Type_E (n : Nat) : Entry := ⟨ref01Type_a, ref01Type_res, fun d => ref01Type n d.1 d.2⟩
theorem ref01Type_ok (n : Nat) : EOK Try.prog 48 (ref01Type_E n) :=
  EOK.ofS prog_names prog_mixed tab_ok (tbl := ref01Type_tbl n) (loops := ref01Type_loops n) (an := ref01Type_an) (old := []) (n := n) (c := ref01Type_c) (fn := Try.f48) (TblOK.cons (AllE.cons (ref01Var_ok n) AllE.nil) TblOK.nil) (by kernel_rfl) (by kernel_rfl) (by kernel_rfl) (by kernel_rfl) (fun d => by kernel_rfl) LT.nil (fun a => ref01Type_run n a.1 a.2)
noncomputable def ref01Types_h0 : List StSh := [⟨.normal, [0, 1, 2, 8, 9], (.cons (.sl true true yD) (.cons (.int .i64) (.cons (.int .i64) (.cons (.msw 0 0) (.cons (.int .i64) .nil))))), (.cons (.bts 0 false false false (.int .u8)) .nil)⟩]
noncomputable def ref01Types_o0 : List StSh := [⟨.ret, [6, 7], (.cons (.sl false false (.int .u8)) (.cons .bool .nil)), (.cons (.bts 0 false false false (.int .u8)) .nil)⟩, ⟨.exit 0, [0, 2, 8], (.cons (.sl true true yD) (.cons (.int .i64) (.cons (.msw 0 0) .nil))), (.cons (.bts 0 false false false (.int .u8)) .nil)⟩]
noncomputable def ref01Types_L0 (n : Nat) : LEntry := ⟨ref01Types_h0, ref01Types_o0, ref01Types_W0 n⟩
noncomputable def ref01Types_res : List StSh := [⟨.ret, [0], (.cons (.tup (.cons (.sl false false (.int .u8)) (.cons .bool .nil))) .nil), .nil⟩]
noncomputable def ref01Types_tbl (n : Nat) : FuncId → List Entry := fun f => bif Nat.beq f 46 then [ref01Var_E n] else bif Nat.beq f 18 then [ref01Good_E n] else bif Nat.beq f 48 then [ref01Type_E n] else []
noncomputable def ref01Types_loops (n : Nat) : Nat → Option LEntry := fun f => bif Nat.beq f 0 then some (ref01Types_L0 n) else none
theorem ref01Types_r0 (n : Nat) (l_0 : DA) (recs_1 : Int) (most_2 : Int) (i_9 : Int) (m0 : DC) : roundK (real _) tab (ref01Types_tbl n) (ref01Types_loops n) ref01Types_an [] ref01Types_l0 0 [0, 1, 2, 8, 9] ref01Types_h0 ref01Types_o0 ((l_0, (recs_1, (most_2, i_9))), m0) some = ref01Types_B0 n l_0 recs_1 most_2 i_9 m0 := by kernel_rfl
theorem ref01Types_f0 (n : Nat) : LoopFact tab (ref01Types_tbl n) (ref01Types_loops n) ref01Types_an [] n 0 ref01Types_l0 (ref01Types_L0 n) := ⟨[0, 1, 2, 8, 9], fun s => ref01Types_B0 n s.1.1 s.1.2.1 s.1.2.2.1 s.1.2.2.2 s.2, by kernel_rfl, by kernel_rfl, fun s => rfl, fun s => ref01Types_r0 n s.1.1 s.1.2.1 s.1.2.2.1 s.1.2.2.2 s.2⟩
theorem ref01Types_run (n : Nat) (l_0 : DA) (recs_1 : Int) (most_2 : Int) : funDS (real _) tab (ref01Types_tbl n) (ref01Types_loops n) ref01Types_an Try.f47 0 ref01Types_a ref01Types_res (l_0, (recs_1, most_2)) some = ref01Types n l_0 recs_1 most_2 := by kernel_rfl
noncomputable def ref01Types_E (n : Nat) : Entry := ⟨ref01Types_a, ref01Types_res, fun d => ref01Types n d.1 d.2.1 d.2.2⟩
theorem ref01Types_ok (n : Nat) : EOK Try.prog 47 (ref01Types_E n) :=
  EOK.ofS prog_names prog_mixed tab_ok (tbl := ref01Types_tbl n) (loops := ref01Types_loops n) (an := ref01Types_an) (old := []) (n := n) (c := ref01Types_c) (fn := Try.f47) (TblOK.cons (AllE.cons (ref01Var_ok n) AllE.nil) (TblOK.cons (AllE.cons (ref01Good_ok n) AllE.nil) (TblOK.cons (AllE.cons (ref01Type_ok n) AllE.nil) TblOK.nil))) (by kernel_rfl) (by kernel_rfl) (by kernel_rfl) (by kernel_rfl) (fun d => by kernel_rfl) (LT.cons (by kernel_rfl) (ref01Types_f0 n) LT.nil) (fun a => ref01Types_run n a.1 a.2.1 a.2.2)
noncomputable def ref01Module_h0 : List StSh := [⟨.normal, [1, 4, 5, 6, 7], (.cons (.ptr 0 0 0 0) (.cons (.int .i64) (.cons .bool (.cons (.msw 1 0) (.cons (.int .i64) .nil))))), (.cons (.bcells 0 false 1 (.cons (.sl true false yA) (.cons (.sl true true yB) (.cons (.sl true true yC) (.cons (.sl true false (.int .u64)) (.cons (.sl true false .str) .nil)))))) (.cons (.bts 0 false false false (.int .u8)) .nil))⟩]
noncomputable def ref01Module_o0 : List StSh := [⟨.exit 0, [1, 4, 5, 6], (.cons (.ptr 0 0 0 0) (.cons (.int .i64) (.cons .bool (.cons (.msw 1 0) .nil)))), (.cons (.bcells 0 false 1 (.cons (.sl true false yA) (.cons (.sl true true yB) (.cons (.sl true true yC) (.cons (.sl true false (.int .u64)) (.cons (.sl true false .str) .nil)))))) (.cons (.bts 0 false false false (.int .u8)) .nil))⟩]
noncomputable def ref01Module_L0 (n : Nat) : LEntry := ⟨ref01Module_h0, ref01Module_o0, ref01Module_W0 n⟩
noncomputable def ref01Instr_an : Ann := { boxed := [(4, 3), (6, 5), (8, 5)] }
noncomputable def ref01Instr_c : Code := (match Try.f49.body with | some c => c | none => .skip)
noncomputable def ref01Instr_a : StSh := ⟨.normal, [0], (.cons (.agg (.cons (.int .i64) (.cons (.int .i64) (.cons (.int .i64) .nil)))) .nil), .nil⟩
noncomputable def ref01Args_an : Ann := { live := [(0, [0, 3, 4])] }
noncomputable def ref01Args_c : Code := (match Try.f101.body with | some c => c | none => .skip)
noncomputable def ref01Args_l0 : Code := (match assoc 0 (loopsIn ref01Args_c 0) with | some c => c | none => .skip)
noncomputable def ref01Args_a : StSh := ⟨.normal, [0], (.cons (.int .i64) .nil), .nil⟩
noncomputable def ref01Args_h0 : List StSh := [⟨.normal, [0, 3, 4], (.cons (.int .i64) (.cons (.sl false false (.int .i64)) (.cons (.int .i64) .nil))), .nil⟩]
noncomputable def ref01Args_o0 : List StSh := [⟨.ret, [2], (.cons (.int .i64) .nil), .nil⟩, ⟨.exit 0, [], .nil, .nil⟩]
noncomputable def ref01Args_L0 (n : Nat) : LEntry := ⟨ref01Args_h0, ref01Args_o0, ref01Args_W0 n⟩
noncomputable def ref01Args_res : List StSh := [⟨.ret, [0], (.cons (.int .i64) .nil), .nil⟩]
noncomputable def ref01Args_tbl (n : Nat) : FuncId → List Entry := fun f => []
noncomputable def ref01Args_loops (n : Nat) : Nat → Option LEntry := fun f => bif Nat.beq f 0 then some (ref01Args_L0 n) else none
theorem ref01Args_r0 (n : Nat) (op_0 : Int) (l_3 : DC) (i_4 : Int) : roundK (real _) tab (ref01Args_tbl n) (ref01Args_loops n) ref01Args_an [] ref01Args_l0 0 [0, 3, 4] ref01Args_h0 ref01Args_o0 (op_0, (l_3, i_4)) some = ref01Args_B0 n op_0 l_3 i_4 := by kernel_rfl
theorem ref01Args_f0 (n : Nat) : LoopFact tab (ref01Args_tbl n) (ref01Args_loops n) ref01Args_an [] n 0 ref01Args_l0 (ref01Args_L0 n) := ⟨[0, 3, 4], fun s => ref01Args_B0 n s.1 s.2.1 s.2.2, by kernel_rfl, by kernel_rfl, fun s => rfl, fun s => ref01Args_r0 n s.1 s.2.1 s.2.2⟩
theorem ref01Args_run (n : Nat) (op_0 : Int) : funDS (real _) tab (ref01Args_tbl n) (ref01Args_loops n) ref01Args_an Try.f101 0 ref01Args_a ref01Args_res op_0 some = ref01Args n op_0 := by kernel_rfl
noncomputable def ref01Args_E (n : Nat) : Entry := ⟨ref01Args_a, ref01Args_res, fun d => ref01Args n d⟩
theorem ref01Args_ok (n : Nat) : EOK Try.prog 101 (ref01Args_E n) :=
  EOK.ofS prog_names prog_mixed tab_ok (tbl := ref01Args_tbl n) (loops := ref01Args_loops n) (an := ref01Args_an) (old := []) (n := n) (c := ref01Args_c) (fn := Try.f101) TblOK.nil (by kernel_rfl) (by kernel_rfl) (by kernel_rfl) (by kernel_rfl) (fun d => by kernel_rfl) (LT.cons (by kernel_rfl) (ref01Args_f0 n) LT.nil) (fun a => ref01Args_run n a)
noncomputable def ref01Instr_res : List StSh := [⟨.ret, [0], (.cons (.sl false false (.int .u8)) .nil), .nil⟩]
noncomputable def ref01Instr_tbl (n : Nat) : FuncId → List Entry := fun f => bif Nat.beq f 101 then [ref01Args_E n] else bif Nat.beq f 46 then [ref01Var_E n] else []
noncomputable def ref01Instr_loops (n : Nat) : Nat → Option LEntry := fun f => none
theorem ref01Instr_run (n : Nat) (t0 : Int) (t0_1 : Int) (t0_2 : Int) : funDS (real _) tab (ref01Instr_tbl n) (ref01Instr_loops n) ref01Instr_an Try.f49 0 ref01Instr_a ref01Instr_res (t0, (t0_1, t0_2)) some = ref01Instr n t0 t0_1 t0_2 := by kernel_rfl
noncomputable def ref01Instr_E (n : Nat) : Entry := ⟨ref01Instr_a, ref01Instr_res, fun d => ref01Instr n d.1 d.2.1 d.2.2⟩
theorem ref01Instr_ok (n : Nat) : EOK Try.prog 49 (ref01Instr_E n) :=
  EOK.ofS prog_names prog_mixed tab_ok (tbl := ref01Instr_tbl n) (loops := ref01Instr_loops n) (an := ref01Instr_an) (old := []) (n := n) (c := ref01Instr_c) (fn := Try.f49) (TblOK.cons (AllE.cons (ref01Args_ok n) AllE.nil) (TblOK.cons (AllE.cons (ref01Var_ok n) AllE.nil) TblOK.nil)) (by kernel_rfl) (by kernel_rfl) (by kernel_rfl) (by kernel_rfl) (fun d => by kernel_rfl) LT.nil (fun a => ref01Instr_run n a.1 a.2.1 a.2.2)
noncomputable def ref01Module_h4 : List StSh := [⟨.normal, [1, 4, 5, 6, 10, 11, 12, 17], (.cons (.ptr 0 0 0 0) (.cons (.int .i64) (.cons .bool (.cons (.msw 1 0) (.cons (.msw 2 0) (.cons (.int .i64) (.cons (.ptr 3 0 0 0) (.cons (.int .i64) .nil)))))))), (.cons (.bcells 0 false 1 (.cons (.sl true false yA) (.cons (.sl true true yB) (.cons (.sl true true yC) (.cons (.sl true false (.int .u64)) (.cons (.sl true false .str) .nil)))))) (.cons (.bts 0 false false false (.int .u8)) (.cons (.bts 0 false false false (.int .u8)) (.cons (.bcells 0 false 1 (.cons (.sl true true yD) (.cons (.int .i64) (.cons (.int .i64) (.cons (.sl true true yD) (.cons (.sl true true yE) .nil)))))) .nil))))⟩]
noncomputable def ref01Module_o4 : List StSh := [⟨.ret, [2, 3], (.cons (.sl false false (.int .u8)) (.cons .bool .nil)), (.cons (.bcells 0 false 1 (.cons (.sl true false yA) (.cons (.sl true true yB) (.cons (.sl true true yC) (.cons (.sl true false (.int .u64)) (.cons (.sl true false .str) .nil)))))) (.cons (.bts 0 false false false (.int .u8)) (.cons (.bts 0 false false false (.int .u8)) (.cons (.bcells 0 false 1 (.cons (.sl true true yD) (.cons (.int .i64) (.cons (.int .i64) (.cons (.sl true true yD) (.cons (.sl true true yE) .nil)))))) .nil))))⟩, ⟨.exit 4, [1, 4, 5, 6, 10, 11], (.cons (.ptr 0 0 0 0) (.cons (.int .i64) (.cons .bool (.cons (.msw 1 0) (.cons (.msw 2 0) (.cons (.int .i64) .nil)))))), (.cons (.bcells 0 false 1 (.cons (.sl true false yA) (.cons (.sl true true yB) (.cons (.sl true true yC) (.cons (.sl true false (.int .u64)) (.cons (.sl true false .str) .nil)))))) (.cons (.bts 0 false false false (.int .u8)) (.cons (.bts 0 false false false (.int .u8)) (.cons (.bcells 0 false 1 (.cons (.sl true true yD) (.cons (.int .i64) (.cons (.int .i64) (.cons (.sl true true yD) (.cons (.sl true true yE) .nil)))))) .nil))))⟩]
noncomputable def ref01Module_L4 (n : Nat) : LEntry := ⟨ref01Module_h4, ref01Module_o4, ref01Module_W4 n⟩
noncomputable def ref01Module_h2 : List StSh := [⟨.normal, [1, 4, 5, 6, 10, 11], (.cons (.ptr 0 0 0 0) (.cons (.int .i64) (.cons .bool (.cons (.msw 1 0) (.cons (.msw 2 0) (.cons (.int .i64) .nil)))))), (.cons (.bcells 0 false 1 (.cons (.sl true false yA) (.cons (.sl true true yB) (.cons (.sl true true yC) (.cons (.sl true false (.int .u64)) (.cons (.sl true false .str) .nil)))))) (.cons (.bts 0 false false false (.int .u8)) (.cons (.bts 0 false false false (.int .u8)) .nil)))⟩]
noncomputable def ref01Module_o2 : List StSh := [⟨.ret, [2, 3], (.cons (.sl false false (.int .u8)) (.cons .bool .nil)), (.cons (.bcells 0 false 1 (.cons (.sl true false yA) (.cons (.sl true true yB) (.cons (.sl true true yC) (.cons (.sl true false (.int .u64)) (.cons (.sl true false .str) .nil)))))) (.cons (.bts 0 false false false (.int .u8)) (.cons (.bts 0 false false false (.int .u8)) (.cons (.bcells 0 false 1 (.cons (.sl true true yD) (.cons (.int .i64) (.cons (.int .i64) (.cons (.sl true true yD) (.cons (.sl true true yE) .nil)))))) .nil))))⟩, ⟨.exit 2, [1, 4, 5, 6, 10], (.cons (.ptr 0 0 0 0) (.cons (.int .i64) (.cons .bool (.cons (.msw 1 0) (.cons (.msw 2 0) .nil))))), (.cons (.bcells 0 false 1 (.cons (.sl true false yA) (.cons (.sl true true yB) (.cons (.sl true true yC) (.cons (.sl true false (.int .u64)) (.cons (.sl true false .str) .nil)))))) (.cons (.bts 0 false false false (.int .u8)) (.cons (.bts 0 false false false (.int .u8)) .nil)))⟩]
noncomputable def ref01Module_L2 (n : Nat) : LEntry := ⟨ref01Module_h2, ref01Module_o2, ref01Module_W2 n⟩
noncomputable def ref01Module_h6 : List StSh := [⟨.normal, [1, 4, 5, 6, 10, 19, 20], (.cons (.ptr 0 0 0 0) (.cons (.int .i64) (.cons .bool (.cons (.msw 1 0) (.cons (.msw 2 0) (.cons (.msw 3 0) (.cons (.int .i64) .nil))))))), (.cons (.bcells 0 false 1 (.cons (.sl true false yA) (.cons (.sl true true yB) (.cons (.sl true true yC) (.cons (.sl true false (.int .u64)) (.cons (.sl true false .str) .nil)))))) (.cons (.bts 0 false false false (.int .u8)) (.cons (.bts 0 false false false (.int .u8)) (.cons (.bts 0 false false false (.int .u8)) .nil))))⟩]
noncomputable def ref01Module_o6 : List StSh := [⟨.exit 6, [1, 5, 6, 10, 19], (.cons (.ptr 0 0 0 0) (.cons .bool (.cons (.msw 1 0) (.cons (.msw 2 0) (.cons (.msw 3 0) .nil))))), (.cons (.bcells 0 false 1 (.cons (.sl true false yA) (.cons (.sl true true yB) (.cons (.sl true true yC) (.cons (.sl true false (.int .u64)) (.cons (.sl true false .str) .nil)))))) (.cons (.bts 0 false false false (.int .u8)) (.cons (.bts 0 false false false (.int .u8)) (.cons (.bts 0 false false false (.int .u8)) .nil))))⟩]
noncomputable def ref01Module_L6 (n : Nat) : LEntry := ⟨ref01Module_h6, ref01Module_o6, ref01Module_W6 n⟩
noncomputable def ref01Fixed_an : Ann := { live := [(0, [0, 1, 5, 6])], boxed := [(1, 0), (5, 5)] }
noncomputable def ref01Fixed_c : Code := (match Try.f50.body with | some c => c | none => .skip)
noncomputable def ref01Fixed_l0 : Code := (match assoc 0 (loopsIn ref01Fixed_c 0) with | some c => c | none => .skip)
noncomputable def ref01Fixed_a : StSh := ⟨.normal, [0, 1], (.cons (.int .u64) (.cons (.int .i64) .nil)), .nil⟩
noncomputable def ref01Fixed_h0 : List StSh := [⟨.normal, [0, 1, 5, 6], (.cons (.int .u64) (.cons (.int .i64) (.cons (.msw 0 0) (.cons (.int .i64) .nil)))), (.cons (.bts 0 false false false (.int .u8)) .nil)⟩]
noncomputable def ref01Fixed_o0 : List StSh := [⟨.exit 0, [5], (.cons (.msw 0 0) .nil), (.cons (.bts 0 false false false (.int .u8)) .nil)⟩]
noncomputable def ref01Fixed_L0 (n : Nat) : LEntry := ⟨ref01Fixed_h0, ref01Fixed_o0, ref01Fixed_W0 n⟩
noncomputable def ref01Fixed_res : List StSh := [⟨.ret, [0], (.cons (.sl false false (.int .u8)) .nil), .nil⟩]
noncomputable def ref01Fixed_tbl (n : Nat) : FuncId → List Entry := fun f => []
noncomputable def ref01Fixed_loops (n : Nat) : Nat → Option LEntry := fun f => bif Nat.beq f 0 then some (ref01Fixed_L0 n) else none
theorem ref01Fixed_r0 (n : Nat) (v_0 : Int) (n_1 : Int) (k_6 : Int) (m0 : DC) : roundK (real _) tab (ref01Fixed_tbl n) (ref01Fixed_loops n) ref01Fixed_an [] ref01Fixed_l0 0 [0, 1, 5, 6] ref01Fixed_h0 ref01Fixed_o0 ((v_0, (n_1, k_6)), m0) some = ref01Fixed_B0 n v_0 n_1 k_6 m0 := by kernel_rfl
theorem ref01Fixed_f0 (n : Nat) : LoopFact tab (ref01Fixed_tbl n) (ref01Fixed_loops n) ref01Fixed_an [] n 0 ref01Fixed_l0 (ref01Fixed_L0 n) := ⟨[0, 1, 5, 6], fun s => ref01Fixed_B0 n s.1.1 s.1.2.1 s.1.2.2 s.2, by kernel_rfl, by kernel_rfl, fun s => rfl, fun s => ref01Fixed_r0 n s.1.1 s.1.2.1 s.1.2.2 s.2⟩
theorem ref01Fixed_run (n : Nat) (v_0 : Int) (n_1 : Int) : funDS (real _) tab (ref01Fixed_tbl n) (ref01Fixed_loops n) ref01Fixed_an Try.f50 0 ref01Fixed_a ref01Fixed_res (v_0, n_1) some = ref01Fixed n v_0 n_1 := by kernel_rfl
noncomputable def ref01Fixed_E (n : Nat) : Entry := ⟨ref01Fixed_a, ref01Fixed_res, fun d => ref01Fixed n d.1 d.2⟩
theorem ref01Fixed_ok (n : Nat) : EOK Try.prog 50 (ref01Fixed_E n) :=
  EOK.ofS prog_names prog_mixed tab_ok (tbl := ref01Fixed_tbl n) (loops := ref01Fixed_loops n) (an := ref01Fixed_an) (old := []) (n := n) (c := ref01Fixed_c) (fn := Try.f50) TblOK.nil (by kernel_rfl) (by kernel_rfl) (by kernel_rfl) (by kernel_rfl) (fun d => by kernel_rfl) (LT.cons (by kernel_rfl) (ref01Fixed_f0 n) LT.nil) (fun a => ref01Fixed_run n a.1 a.2)
noncomputable def ref01Module_h8 : List StSh := [⟨.normal, [1, 5, 6, 10, 19, 23, 24], (.cons (.ptr 0 0 0 0) (.cons .bool (.cons (.msw 1 0) (.cons (.msw 2 0) (.cons (.msw 3 0) (.cons (.msw 4 0) (.cons (.int .i64) .nil))))))), (.cons (.bcells 0 false 1 (.cons (.sl true false yA) (.cons (.sl true true yB) (.cons (.sl true true yC) (.cons (.sl true false (.int .u64)) (.cons (.sl true false .str) .nil)))))) (.cons (.bts 0 false false false (.int .u8)) (.cons (.bts 0 false false false (.int .u8)) (.cons (.bts 0 false false false (.int .u8)) (.cons (.bts 0 false false false (.int .u8)) .nil)))))⟩]
noncomputable def ref01Module_o8 : List StSh := [⟨.exit 8, [1, 5, 6, 10, 19, 23], (.cons (.ptr 0 0 0 0) (.cons .bool (.cons (.msw 1 0) (.cons (.msw 2 0) (.cons (.msw 3 0) (.cons (.msw 4 0) .nil)))))), (.cons (.bcells 0 false 1 (.cons (.sl true false yA) (.cons (.sl true true yB) (.cons (.sl true true yC) (.cons (.sl true false (.int .u64)) (.cons (.sl true false .str) .nil)))))) (.cons (.bts 0 false false false (.int .u8)) (.cons (.bts 0 false false false (.int .u8)) (.cons (.bts 0 false false false (.int .u8)) (.cons (.bts 0 false false false (.int .u8)) .nil)))))⟩]
noncomputable def ref01Module_L8 (n : Nat) : LEntry := ⟨ref01Module_h8, ref01Module_o8, ref01Module_W8 n⟩
noncomputable def ref01Module_h10 : List StSh := [⟨.normal, [1, 5, 6, 10, 19, 23, 25, 26], (.cons (.ptr 0 0 0 0) (.cons .bool (.cons (.msw 1 0) (.cons (.msw 2 0) (.cons (.msw 3 0) (.cons (.msw 4 0) (.cons (.msw 5 0) (.cons (.int .i64) .nil)))))))), (.cons (.bcells 0 false 1 (.cons (.sl true false yA) (.cons (.sl true true yB) (.cons (.sl true true yC) (.cons (.sl true false (.int .u64)) (.cons (.sl true false .str) .nil)))))) (.cons (.bts 0 false false false (.int .u8)) (.cons (.bts 0 false false false (.int .u8)) (.cons (.bts 0 false false false (.int .u8)) (.cons (.bts 0 false false false (.int .u8)) (.cons (.bts 0 false false false (.int .u8)) .nil))))))⟩]
noncomputable def ref01Module_o10 : List StSh := [⟨.exit 10, [5, 6, 10, 19, 23, 25], (.cons .bool (.cons (.msw 1 0) (.cons (.msw 2 0) (.cons (.msw 3 0) (.cons (.msw 4 0) (.cons (.msw 5 0) .nil)))))), (.cons (.bcells 0 false 1 (.cons (.sl true false yA) (.cons (.sl true true yB) (.cons (.sl true true yC) (.cons (.sl true false (.int .u64)) (.cons (.sl true false .str) .nil)))))) (.cons (.bts 0 false false false (.int .u8)) (.cons (.bts 0 false false false (.int .u8)) (.cons (.bts 0 false false false (.int .u8)) (.cons (.bts 0 false false false (.int .u8)) (.cons (.bts 0 false false false (.int .u8)) .nil))))))⟩]
noncomputable def ref01Module_L10 (n : Nat) : LEntry := ⟨ref01Module_h10, ref01Module_o10, ref01Module_W10 n⟩
noncomputable def ref01Join_an : Ann := { live := [(0, [0, 3, 4])], boxed := [(5, 8), (5, 13)], raw := [(1, 3)] }
noncomputable def ref01Join_c : Code := (match Try.f51.body with | some c => c | none => .skip)
noncomputable def ref01Join_l0 : Code := (match assoc 0 (loopsIn ref01Join_c 0) with | some c => c | none => .skip)
noncomputable def ref01Join_a : StSh := ⟨.normal, [0], (.cons (.sl true false yF) .nil), .nil⟩
noncomputable def ref01Join_h0 : List StSh := [⟨.normal, [0, 3, 4], (.cons (.sl true false yF) (.cons (.msw 0 0) (.cons (.int .i64) .nil))), (.cons (.bts 0 false false false (.int .u8)) .nil)⟩]
noncomputable def ref01Join_o0 : List StSh := [⟨.exit 0, [3], (.cons (.msw 0 0) .nil), (.cons (.bts 0 false false false (.int .u8)) .nil)⟩]
noncomputable def ref01Join_L0 (n : Nat) : LEntry := ⟨ref01Join_h0, ref01Join_o0, ref01Join_W0 n⟩
noncomputable def ref01Join_res : List StSh := [⟨.ret, [0], (.cons (.sl false false (.int .u8)) .nil), .nil⟩]
noncomputable def ref01Join_tbl (n : Nat) : FuncId → List Entry := fun f => bif Nat.beq f 46 then [ref01Var_E n] else []
noncomputable def ref01Join_loops (n : Nat) : Nat → Option LEntry := fun f => bif Nat.beq f 0 then some (ref01Join_L0 n) else none
theorem ref01Join_r0 (n : Nat) (l_0 : DJ) (i_4 : Int) (m0 : DC) : roundK (real _) tab (ref01Join_tbl n) (ref01Join_loops n) ref01Join_an [] ref01Join_l0 0 [0, 3, 4] ref01Join_h0 ref01Join_o0 ((l_0, i_4), m0) some = ref01Join_B0 n l_0 i_4 m0 := by kernel_rfl
theorem ref01Join_f0 (n : Nat) : LoopFact tab (ref01Join_tbl n) (ref01Join_loops n) ref01Join_an [] n 0 ref01Join_l0 (ref01Join_L0 n) := ⟨[0, 3, 4], fun s => ref01Join_B0 n s.1.1 s.1.2 s.2, by kernel_rfl, by kernel_rfl, fun s => rfl, fun s => ref01Join_r0 n s.1.1 s.1.2 s.2⟩
theorem ref01Join_run (n : Nat) (l_0 : DJ) : funDS (real _) tab (ref01Join_tbl n) (ref01Join_loops n) ref01Join_an Try.f51 0 ref01Join_a ref01Join_res l_0 some = ref01Join n l_0 := by kernel_rfl
noncomputable def ref01Join_E (n : Nat) : Entry := ⟨ref01Join_a, ref01Join_res, fun d => ref01Join n d⟩
theorem ref01Join_ok (n : Nat) : EOK Try.prog 51 (ref01Join_E n) :=
  EOK.ofS prog_names prog_mixed tab_ok (tbl := ref01Join_tbl n) (loops := ref01Join_loops n) (an := ref01Join_an) (old := []) (n := n) (c := ref01Join_c) (fn := Try.f51) (TblOK.cons (AllE.cons (ref01Var_ok n) AllE.nil) TblOK.nil) (by kernel_rfl) (by kernel_rfl) (by kernel_rfl) (by kernel_rfl) (fun d => by kernel_rfl) (LT.cons (by kernel_rfl) (ref01Join_f0 n) LT.nil) (fun a => ref01Join_run n a)
noncomputable def ref01Module_res : List StSh := [⟨.ret, [0], (.cons (.tup (.cons (.sl false false (.int .u8)) (.cons .bool .nil))) .nil), .nil⟩]
noncomputable def ref01Module_tbl (n : Nat) : FuncId → List Entry := fun f => bif Nat.beq f 46 then [ref01Var_E n] else bif Nat.beq f 47 then [ref01Types_E n] else bif Nat.beq f 18 then [ref01Good_E n] else bif Nat.beq f 48 then [ref01Type_E n] else bif Nat.beq f 49 then [ref01Instr_E n] else bif Nat.beq f 50 then [ref01Fixed_E n] else bif Nat.beq f 51 then [ref01Join_E n] else []
noncomputable def ref01Module_loops (n : Nat) : Nat → Option LEntry := fun f => bif Nat.beq f 0 then some (ref01Module_L0 n) else bif Nat.beq f 4 then some (ref01Module_L4 n) else bif Nat.beq f 2 then some (ref01Module_L2 n) else bif Nat.beq f 6 then some (ref01Module_L6 n) else bif Nat.beq f 8 then some (ref01Module_L8 n) else bif Nat.beq f 10 then some (ref01Module_L10 n) else none
theorem ref01Module_r0 (n : Nat) (t4 : Int) (t5 : Bool) (t7 : Int) (m0 : DG) (m0_1 : DH) (m0_2 : DI) (m0_3 : DC) (m0_4 : DD) (m1 : DC) : roundK (real _) tab (ref01Module_tbl n) (ref01Module_loops n) ref01Module_an [] ref01Module_l0 0 [1, 4, 5, 6, 7] ref01Module_h0 ref01Module_o0 ((t4, (t5, t7)), ((m0, (m0_1, (m0_2, (m0_3, m0_4)))), m1)) some = ref01Module_B0 n t4 t5 t7 m0 m0_1 m0_2 m0_3 m0_4 m1 := by kernel_rfl
theorem ref01Module_f0 (n : Nat) : LoopFact tab (ref01Module_tbl n) (ref01Module_loops n) ref01Module_an [] n 0 ref01Module_l0 (ref01Module_L0 n) := ⟨[1, 4, 5, 6, 7], fun s => ref01Module_B0 n s.1.1 s.1.2.1 s.1.2.2 s.2.1.1 s.2.1.2.1 s.2.1.2.2.1 s.2.1.2.2.2.1 s.2.1.2.2.2.2 s.2.2, by kernel_rfl, by kernel_rfl, fun s => rfl, fun s => ref01Module_r0 n s.1.1 s.1.2.1 s.1.2.2 s.2.1.1 s.2.1.2.1 s.2.1.2.2.1 s.2.1.2.2.2.1 s.2.1.2.2.2.2 s.2.2⟩
theorem ref01Module_r4 (n : Nat) (t4 : Int) (t5 : Bool) (t11 : Int) (t17 : Int) (m0 : DG) (m0_1 : DH) (m0_2 : DI) (m0_3 : DC) (m0_4 : DD) (m1 : DC) (m2 : DC) (m3 : DA) (m3_1 : Int) (m3_2 : Int) (m3_3 : DA) (m3_4 : DB) : roundK (real _) tab (ref01Module_tbl n) (ref01Module_loops n) ref01Module_an [] ref01Module_l4 4 [1, 4, 5, 6, 10, 11, 12, 17] ref01Module_h4 ref01Module_o4 ((t4, (t5, (t11, t17))), ((m0, (m0_1, (m0_2, (m0_3, m0_4)))), (m1, (m2, (m3, (m3_1, (m3_2, (m3_3, m3_4)))))))) some = ref01Module_B4 n t4 t5 t11 t17 m0 m0_1 m0_2 m0_3 m0_4 m1 m2 m3 m3_1 m3_2 m3_3 m3_4 := by kernel_rfl
theorem ref01Module_f4 (n : Nat) : LoopFact tab (ref01Module_tbl n) (ref01Module_loops n) ref01Module_an [] n 4 ref01Module_l4 (ref01Module_L4 n) := ⟨[1, 4, 5, 6, 10, 11, 12, 17], fun s => ref01Module_B4 n s.1.1 s.1.2.1 s.1.2.2.1 s.1.2.2.2 s.2.1.1 s.2.1.2.1 s.2.1.2.2.1 s.2.1.2.2.2.1 s.2.1.2.2.2.2 s.2.2.1 s.2.2.2.1 s.2.2.2.2.1 s.2.2.2.2.2.1 s.2.2.2.2.2.2.1 s.2.2.2.2.2.2.2.1 s.2.2.2.2.2.2.2.2, by kernel_rfl, by kernel_rfl, fun s => rfl, fun s => ref01Module_r4 n s.1.1 s.1.2.1 s.1.2.2.1 s.1.2.2.2 s.2.1.1 s.2.1.2.1 s.2.1.2.2.1 s.2.1.2.2.2.1 s.2.1.2.2.2.2 s.2.2.1 s.2.2.2.1 s.2.2.2.2.1 s.2.2.2.2.2.1 s.2.2.2.2.2.2.1 s.2.2.2.2.2.2.2.1 s.2.2.2.2.2.2.2.2⟩
theorem ref01Module_r2 (n : Nat) (t4 : Int) (t5 : Bool) (t11 : Int) (m0 : DG) (m0_1 : DH) (m0_2 : DI) (m0_3 : DC) (m0_4 : DD) (m1 : DC) (m2 : DC) : roundK (real _) tab (ref01Module_tbl n) (ref01Module_loops n) ref01Module_an [] ref01Module_l2 2 [1, 4, 5, 6, 10, 11] ref01Module_h2 ref01Module_o2 ((t4, (t5, t11)), ((m0, (m0_1, (m0_2, (m0_3, m0_4)))), (m1, m2))) some = ref01Module_B2 n t4 t5 t11 m0 m0_1 m0_2 m0_3 m0_4 m1 m2 := by kernel_rfl
theorem ref01Module_f2 (n : Nat) : LoopFact tab (ref01Module_tbl n) (ref01Module_loops n) ref01Module_an [] n 2 ref01Module_l2 (ref01Module_L2 n) := ⟨[1, 4, 5, 6, 10, 11], fun s => ref01Module_B2 n s.1.1 s.1.2.1 s.1.2.2 s.2.1.1 s.2.1.2.1 s.2.1.2.2.1 s.2.1.2.2.2.1 s.2.1.2.2.2.2 s.2.2.1 s.2.2.2, by kernel_rfl, by kernel_rfl, fun s => rfl, fun s => ref01Module_r2 n s.1.1 s.1.2.1 s.1.2.2 s.2.1.1 s.2.1.2.1 s.2.1.2.2.1 s.2.1.2.2.2.1 s.2.1.2.2.2.2 s.2.2.1 s.2.2.2⟩
theorem ref01Module_r6 (n : Nat) (t4 : Int) (t5 : Bool) (t20 : Int) (m0 : DG) (m0_1 : DH) (m0_2 : DI) (m0_3 : DC) (m0_4 : DD) (m1 : DC) (m2 : DC) (m3 : DC) : roundK (real _) tab (ref01Module_tbl n) (ref01Module_loops n) ref01Module_an [] ref01Module_l6 6 [1, 4, 5, 6, 10, 19, 20] ref01Module_h6 ref01Module_o6 ((t4, (t5, t20)), ((m0, (m0_1, (m0_2, (m0_3, m0_4)))), (m1, (m2, m3)))) some = ref01Module_B6 n t4 t5 t20 m0 m0_1 m0_2 m0_3 m0_4 m1 m2 m3 := by kernel_rfl
theorem ref01Module_f6 (n : Nat) : LoopFact tab (ref01Module_tbl n) (ref01Module_loops n) ref01Module_an [] n 6 ref01Module_l6 (ref01Module_L6 n) := ⟨[1, 4, 5, 6, 10, 19, 20], fun s => ref01Module_B6 n s.1.1 s.1.2.1 s.1.2.2 s.2.1.1 s.2.1.2.1 s.2.1.2.2.1 s.2.1.2.2.2.1 s.2.1.2.2.2.2 s.2.2.1 s.2.2.2.1 s.2.2.2.2, by kernel_rfl, by kernel_rfl, fun s => rfl, fun s => ref01Module_r6 n s.1.1 s.1.2.1 s.1.2.2 s.2.1.1 s.2.1.2.1 s.2.1.2.2.1 s.2.1.2.2.2.1 s.2.1.2.2.2.2 s.2.2.1 s.2.2.2.1 s.2.2.2.2⟩
theorem ref01Module_r8 (n : Nat) (t5 : Bool) (t24 : Int) (m0 : DG) (m0_1 : DH) (m0_2 : DI) (m0_3 : DC) (m0_4 : DD) (m1 : DC) (m2 : DC) (m3 : DC) (m4 : DC) : roundK (real _) tab (ref01Module_tbl n) (ref01Module_loops n) ref01Module_an [] ref01Module_l8 8 [1, 5, 6, 10, 19, 23, 24] ref01Module_h8 ref01Module_o8 ((t5, t24), ((m0, (m0_1, (m0_2, (m0_3, m0_4)))), (m1, (m2, (m3, m4))))) some = ref01Module_B8 n t5 t24 m0 m0_1 m0_2 m0_3 m0_4 m1 m2 m3 m4 := by kernel_rfl
theorem ref01Module_f8 (n : Nat) : LoopFact tab (ref01Module_tbl n) (ref01Module_loops n) ref01Module_an [] n 8 ref01Module_l8 (ref01Module_L8 n) := ⟨[1, 5, 6, 10, 19, 23, 24], fun s => ref01Module_B8 n s.1.1 s.1.2 s.2.1.1 s.2.1.2.1 s.2.1.2.2.1 s.2.1.2.2.2.1 s.2.1.2.2.2.2 s.2.2.1 s.2.2.2.1 s.2.2.2.2.1 s.2.2.2.2.2, by kernel_rfl, by kernel_rfl, fun s => rfl, fun s => ref01Module_r8 n s.1.1 s.1.2 s.2.1.1 s.2.1.2.1 s.2.1.2.2.1 s.2.1.2.2.2.1 s.2.1.2.2.2.2 s.2.2.1 s.2.2.2.1 s.2.2.2.2.1 s.2.2.2.2.2⟩
theorem ref01Module_r10 (n : Nat) (t5 : Bool) (t26 : Int) (m0 : DG) (m0_1 : DH) (m0_2 : DI) (m0_3 : DC) (m0_4 : DD) (m1 : DC) (m2 : DC) (m3 : DC) (m4 : DC) (m5 : DC) : roundK (real _) tab (ref01Module_tbl n) (ref01Module_loops n) ref01Module_an [] ref01Module_l10 10 [1, 5, 6, 10, 19, 23, 25, 26] ref01Module_h10 ref01Module_o10 ((t5, t26), ((m0, (m0_1, (m0_2, (m0_3, m0_4)))), (m1, (m2, (m3, (m4, m5)))))) some = ref01Module_B10 n t5 t26 m0 m0_1 m0_2 m0_3 m0_4 m1 m2 m3 m4 m5 := by kernel_rfl
theorem ref01Module_f10 (n : Nat) : LoopFact tab (ref01Module_tbl n) (ref01Module_loops n) ref01Module_an [] n 10 ref01Module_l10 (ref01Module_L10 n) := ⟨[1, 5, 6, 10, 19, 23, 25, 26], fun s => ref01Module_B10 n s.1.1 s.1.2 s.2.1.1 s.2.1.2.1 s.2.1.2.2.1 s.2.1.2.2.2.1 s.2.1.2.2.2.2 s.2.2.1 s.2.2.2.1 s.2.2.2.2.1 s.2.2.2.2.2.1 s.2.2.2.2.2.2, by kernel_rfl, by kernel_rfl, fun s => rfl, fun s => ref01Module_r10 n s.1.1 s.1.2 s.2.1.1 s.2.1.2.1 s.2.1.2.2.1 s.2.1.2.2.2.1 s.2.1.2.2.2.2 s.2.2.1 s.2.2.2.1 s.2.2.2.2.1 s.2.2.2.2.2.1 s.2.2.2.2.2.2⟩
theorem ref01Module_run (n : Nat) (t0 : DG) (t0_1 : DH) (t0_2 : DI) (t0_3 : DC) (t0_4 : DD) : funDS (real _) tab (ref01Module_tbl n) (ref01Module_loops n) ref01Module_an Try.f21 0 ref01Module_a ref01Module_res (t0, (t0_1, (t0_2, (t0_3, t0_4)))) some = ref01Module n t0 t0_1 t0_2 t0_3 t0_4 := by kernel_rfl
noncomputable def ref01Module_E (n : Nat) : Entry := ⟨ref01Module_a, ref01Module_res, fun d => ref01Module n d.1 d.2.1 d.2.2.1 d.2.2.2.1 d.2.2.2.2⟩
theorem ref01Module_ok (n : Nat) : EOK Try.prog 21 (ref01Module_E n) :=
  EOK.ofS prog_names prog_mixed tab_ok (tbl := ref01Module_tbl n) (loops := ref01Module_loops n) (an := ref01Module_an) (old := []) (n := n) (c := ref01Module_c) (fn := Try.f21) (TblOK.cons (AllE.cons (ref01Var_ok n) AllE.nil) (TblOK.cons (AllE.cons (ref01Types_ok n) AllE.nil) (TblOK.cons (AllE.cons (ref01Good_ok n) AllE.nil) (TblOK.cons (AllE.cons (ref01Type_ok n) AllE.nil) (TblOK.cons (AllE.cons (ref01Instr_ok n) AllE.nil) (TblOK.cons (AllE.cons (ref01Fixed_ok n) AllE.nil) (TblOK.cons (AllE.cons (ref01Join_ok n) AllE.nil) TblOK.nil))))))) (by kernel_rfl) (by kernel_rfl) (by kernel_rfl) (by kernel_rfl) (fun d => by kernel_rfl) (LT.cons (by kernel_rfl) (ref01Module_f0 n) (LT.cons (by kernel_rfl) (ref01Module_f4 n) (LT.cons (by kernel_rfl) (ref01Module_f2 n) (LT.cons (by kernel_rfl) (ref01Module_f6 n) (LT.cons (by kernel_rfl) (ref01Module_f8 n) (LT.cons (by kernel_rfl) (ref01Module_f10 n) LT.nil)))))) (fun a => ref01Module_run n a.1 a.2.1 a.2.2.1 a.2.2.2.1 a.2.2.2.2)
noncomputable def ref01Named_an : Ann := {}
noncomputable def ref01Named_c : Code := (match Try.f37.body with | some c => c | none => .skip)
noncomputable def ref01Named_a : StSh := ⟨.normal, [0, 1, 2], (.cons (.agg (.cons (.sl true false yA) (.cons (.sl true true yB) (.cons (.sl true true yC) (.cons (.sl true false (.int .u64)) (.cons (.sl true false .str) .nil)))))) (.cons (.agg (.cons (.sl true true yD) (.cons (.int .i64) (.cons (.int .i64) (.cons (.sl true true yD) (.cons (.sl true true yE) .nil)))))) (.cons (.agg (.cons (.int .i64) (.cons (.int .i64) (.cons (.int .i64) .nil)))) .nil))), .nil⟩
noncomputable def ref01Named_res : List StSh := [⟨.ret, [0], (.cons .bool .nil), .nil⟩]
noncomputable def ref01Named_tbl (n : Nat) : FuncId → List Entry := fun f => []
noncomputable def ref01Named_loops (n : Nat) : Nat → Option LEntry := fun f => none
theorem ref01Named_run (n : Nat) (t0 : DG) (t0_1 : DH) (t0_2 : DI) (t0_3 : DC) (t0_4 : DD) (t1 : DA) (t1_1 : Int) (t1_2 : Int) (t1_3 : DA) (t1_4 : DB) (t2 : Int) (t2_1 : Int) (t2_2 : Int) : funDS (real _) tab (ref01Named_tbl n) (ref01Named_loops n) ref01Named_an Try.f37 0 ref01Named_a ref01Named_res ((t0, (t0_1, (t0_2, (t0_3, t0_4)))), ((t1, (t1_1, (t1_2, (t1_3, t1_4)))), (t2, (t2_1, t2_2)))) some = ref01Named n t0 t0_1 t0_2 t0_3 t0_4 t1 t1_1 t1_2 t1_3 t1_4 t2 t2_1 t2_2 := by kernel_rfl
noncomputable def ref01Named_E (n : Nat) : Entry := ⟨ref01Named_a, ref01Named_res, fun d => ref01Named n d.1.1 d.1.2.1 d.1.2.2.1 d.1.2.2.2.1 d.1.2.2.2.2 d.2.1.1 d.2.1.2.1 d.2.1.2.2.1 d.2.1.2.2.2.1 d.2.1.2.2.2.2 d.2.2.1 d.2.2.2.1 d.2.2.2.2⟩
theorem ref01Named_ok (n : Nat) : EOK Try.prog 37 (ref01Named_E n) :=
  EOK.ofS prog_names prog_mixed tab_ok (tbl := ref01Named_tbl n) (loops := ref01Named_loops n) (an := ref01Named_an) (old := []) (n := n) (c := ref01Named_c) (fn := Try.f37) TblOK.nil (by kernel_rfl) (by kernel_rfl) (by kernel_rfl) (by kernel_rfl) (fun d => by kernel_rfl) LT.nil (fun a => ref01Named_run n a.1.1 a.1.2.1 a.1.2.2.1 a.1.2.2.2.1 a.1.2.2.2.2 a.2.1.1 a.2.1.2.1 a.2.1.2.2.1 a.2.1.2.2.2.1 a.2.1.2.2.2.2 a.2.2.1 a.2.2.2.1 a.2.2.2.2)
noncomputable def ref01Check_h2 : List StSh := [⟨.normal, [1, 5, 6, 7], (.cons (.ptr 0 0 0 0) (.cons (.int .i64) (.cons (.ptr 1 0 0 0) (.cons (.int .i64) .nil)))), (.cons (.bcells 0 false 1 (.cons (.sl true false yA) (.cons (.sl true true yB) (.cons (.sl true true yC) (.cons (.sl true false (.int .u64)) (.cons (.sl true false .str) .nil)))))) (.cons (.bcells 0 false 1 (.cons (.sl true true yD) (.cons (.int .i64) (.cons (.int .i64) (.cons (.sl true true yD) (.cons (.sl true true yE) .nil)))))) .nil))⟩]
noncomputable def ref01Check_o2 : List StSh := [⟨.ret, [2], (.cons (.int .i64) .nil), (.cons (.bcells 0 false 1 (.cons (.sl true false yA) (.cons (.sl true true yB) (.cons (.sl true true yC) (.cons (.sl true false (.int .u64)) (.cons (.sl true false .str) .nil)))))) (.cons (.bcells 0 false 1 (.cons (.sl true true yD) (.cons (.int .i64) (.cons (.int .i64) (.cons (.sl true true yD) (.cons (.sl true true yE) .nil)))))) .nil))⟩, ⟨.exit 2, [1, 5, 6], (.cons (.ptr 0 0 0 0) (.cons (.int .i64) (.cons (.ptr 1 0 0 0) .nil))), (.cons (.bcells 0 false 1 (.cons (.sl true false yA) (.cons (.sl true true yB) (.cons (.sl true true yC) (.cons (.sl true false (.int .u64)) (.cons (.sl true false .str) .nil)))))) (.cons (.bcells 0 false 1 (.cons (.sl true true yD) (.cons (.int .i64) (.cons (.int .i64) (.cons (.sl true true yD) (.cons (.sl true true yE) .nil)))))) .nil))⟩]
noncomputable def ref01Check_L2 (n : Nat) : LEntry := ⟨ref01Check_h2, ref01Check_o2, ref01Check_W2 n⟩
noncomputable def ref01Check_h4 : List StSh := [⟨.normal, [1, 5, 6, 8], (.cons (.ptr 0 0 0 0) (.cons (.int .i64) (.cons (.ptr 1 0 0 0) (.cons (.int .i64) .nil)))), (.cons (.bcells 0 false 1 (.cons (.sl true false yA) (.cons (.sl true true yB) (.cons (.sl true true yC) (.cons (.sl true false (.int .u64)) (.cons (.sl true false .str) .nil)))))) (.cons (.bcells 0 false 1 (.cons (.sl true true yD) (.cons (.int .i64) (.cons (.int .i64) (.cons (.sl true true yD) (.cons (.sl true true yE) .nil)))))) .nil))⟩]
noncomputable def ref01Check_o4 : List StSh := [⟨.ret, [2], (.cons (.int .i64) .nil), (.cons (.bcells 0 false 1 (.cons (.sl true false yA) (.cons (.sl true true yB) (.cons (.sl true true yC) (.cons (.sl true false (.int .u64)) (.cons (.sl true false .str) .nil)))))) (.cons (.bcells 0 false 1 (.cons (.sl true true yD) (.cons (.int .i64) (.cons (.int .i64) (.cons (.sl true true yD) (.cons (.sl true true yE) .nil)))))) .nil))⟩, ⟨.exit 4, [1, 5], (.cons (.ptr 0 0 0 0) (.cons (.int .i64) .nil)), (.cons (.bcells 0 false 1 (.cons (.sl true false yA) (.cons (.sl true true yB) (.cons (.sl true true yC) (.cons (.sl true false (.int .u64)) (.cons (.sl true false .str) .nil)))))) (.cons (.bcells 0 false 1 (.cons (.sl true true yD) (.cons (.int .i64) (.cons (.int .i64) (.cons (.sl true true yD) (.cons (.sl true true yE) .nil)))))) .nil))⟩]
noncomputable def ref01Check_L4 (n : Nat) : LEntry := ⟨ref01Check_h4, ref01Check_o4, ref01Check_W4 n⟩
noncomputable def ref01Check_h0 : List StSh := [⟨.normal, [1, 5], (.cons (.ptr 0 0 0 0) (.cons (.int .i64) .nil)), (.cons (.bcells 0 false 1 (.cons (.sl true false yA) (.cons (.sl true true yB) (.cons (.sl true true yC) (.cons (.sl true false (.int .u64)) (.cons (.sl true false .str) .nil)))))) .nil)⟩]
noncomputable def ref01Check_o0 : List StSh := [⟨.ret, [2], (.cons (.int .i64) .nil), (.cons (.bcells 0 false 1 (.cons (.sl true false yA) (.cons (.sl true true yB) (.cons (.sl true true yC) (.cons (.sl true false (.int .u64)) (.cons (.sl true false .str) .nil)))))) (.cons (.bcells 0 false 1 (.cons (.sl true true yD) (.cons (.int .i64) (.cons (.int .i64) (.cons (.sl true true yD) (.cons (.sl true true yE) .nil)))))) .nil))⟩, ⟨.exit 0, [1], (.cons (.ptr 0 0 0 0) .nil), (.cons (.bcells 0 false 1 (.cons (.sl true false yA) (.cons (.sl true true yB) (.cons (.sl true true yC) (.cons (.sl true false (.int .u64)) (.cons (.sl true false .str) .nil)))))) .nil)⟩]
noncomputable def ref01Check_L0 (n : Nat) : LEntry := ⟨ref01Check_h0, ref01Check_o0, ref01Check_W0 n⟩
noncomputable def ref01Host_an : Ann := {}
noncomputable def ref01Host_c : Code := (match Try.f38.body with | some c => c | none => .skip)
noncomputable def ref01Host_a : StSh := ⟨.normal, [0], (.cons (.agg (.cons (.int .i64) (.cons (.int .i64) .nil))) .nil), .nil⟩
noncomputable def ref01Host_res : List StSh := [⟨.ret, [0], (.cons .bool .nil), .nil⟩]
noncomputable def ref01Host_tbl (n : Nat) : FuncId → List Entry := fun f => []
noncomputable def ref01Host_loops (n : Nat) : Nat → Option LEntry := fun f => none
theorem ref01Host_run (n : Nat) (t_0 : Int) (t_0_1 : Int) : funDS (real _) tab (ref01Host_tbl n) (ref01Host_loops n) ref01Host_an Try.f38 0 ref01Host_a ref01Host_res (t_0, t_0_1) some = ref01Host n t_0 t_0_1 := by kernel_rfl
noncomputable def ref01Host_E (n : Nat) : Entry := ⟨ref01Host_a, ref01Host_res, fun d => ref01Host n d.1 d.2⟩
theorem ref01Host_ok (n : Nat) : EOK Try.prog 38 (ref01Host_E n) :=
  EOK.ofS prog_names prog_mixed tab_ok (tbl := ref01Host_tbl n) (loops := ref01Host_loops n) (an := ref01Host_an) (old := []) (n := n) (c := ref01Host_c) (fn := Try.f38) TblOK.nil (by kernel_rfl) (by kernel_rfl) (by kernel_rfl) (by kernel_rfl) (fun d => by kernel_rfl) LT.nil (fun a => ref01Host_run n a.1 a.2)
noncomputable def ref01Check_h8 : List StSh := [⟨.normal, [1, 9, 10, 11], (.cons (.ptr 0 0 0 0) (.cons (.int .i64) (.cons .bool (.cons (.int .i64) .nil)))), (.cons (.bcells 0 false 1 (.cons (.sl true false yA) (.cons (.sl true true yB) (.cons (.sl true true yC) (.cons (.sl true false (.int .u64)) (.cons (.sl true false .str) .nil)))))) .nil)⟩]
noncomputable def ref01Check_o8 : List StSh := [⟨.exit 8, [1, 9, 10], (.cons (.ptr 0 0 0 0) (.cons (.int .i64) (.cons .bool .nil))), (.cons (.bcells 0 false 1 (.cons (.sl true false yA) (.cons (.sl true true yB) (.cons (.sl true true yC) (.cons (.sl true false (.int .u64)) (.cons (.sl true false .str) .nil)))))) .nil)⟩]
noncomputable def ref01Check_L8 (n : Nat) : LEntry := ⟨ref01Check_h8, ref01Check_o8, ref01Check_W8 n⟩
noncomputable def ref01Check_h6 : List StSh := [⟨.normal, [1, 9], (.cons (.ptr 0 0 0 0) (.cons (.int .i64) .nil)), (.cons (.bcells 0 false 1 (.cons (.sl true false yA) (.cons (.sl true true yB) (.cons (.sl true true yC) (.cons (.sl true false (.int .u64)) (.cons (.sl true false .str) .nil)))))) .nil)⟩]
noncomputable def ref01Check_o6 : List StSh := [⟨.ret, [2], (.cons (.int .i64) .nil), (.cons (.bcells 0 false 1 (.cons (.sl true false yA) (.cons (.sl true true yB) (.cons (.sl true true yC) (.cons (.sl true false (.int .u64)) (.cons (.sl true false .str) .nil)))))) .nil)⟩, ⟨.exit 6, [], .nil, (.cons (.bcells 0 false 1 (.cons (.sl true false yA) (.cons (.sl true true yB) (.cons (.sl true true yC) (.cons (.sl true false (.int .u64)) (.cons (.sl true false .str) .nil)))))) .nil)⟩]
noncomputable def ref01Check_L6 (n : Nat) : LEntry := ⟨ref01Check_h6, ref01Check_o6, ref01Check_W6 n⟩
noncomputable def ref01Check_res : List StSh := [⟨.ret, [0], (.cons (.int .i64) .nil), .nil⟩]
noncomputable def ref01Check_tbl (n : Nat) : FuncId → List Entry := fun f => bif Nat.beq f 21 then [ref01Module_E n] else bif Nat.beq f 37 then [ref01Named_E n] else bif Nat.beq f 38 then [ref01Host_E n] else []
noncomputable def ref01Check_loops (n : Nat) : Nat → Option LEntry := fun f => bif Nat.beq f 2 then some (ref01Check_L2 n) else bif Nat.beq f 4 then some (ref01Check_L4 n) else bif Nat.beq f 0 then some (ref01Check_L0 n) else bif Nat.beq f 8 then some (ref01Check_L8 n) else bif Nat.beq f 6 then some (ref01Check_L6 n) else none
theorem ref01Check_r2 (n : Nat) (t5 : Int) (t7 : Int) (m0 : DG) (m0_1 : DH) (m0_2 : DI) (m0_3 : DC) (m0_4 : DD) (m1 : DA) (m1_1 : Int) (m1_2 : Int) (m1_3 : DA) (m1_4 : DB) : roundK (real _) tab (ref01Check_tbl n) (ref01Check_loops n) ref01Check_an [] ref01Check_l2 2 [1, 5, 6, 7] ref01Check_h2 ref01Check_o2 ((t5, t7), ((m0, (m0_1, (m0_2, (m0_3, m0_4)))), (m1, (m1_1, (m1_2, (m1_3, m1_4)))))) some = ref01Check_B2 n t5 t7 m0 m0_1 m0_2 m0_3 m0_4 m1 m1_1 m1_2 m1_3 m1_4 := by kernel_rfl
theorem ref01Check_f2 (n : Nat) : LoopFact tab (ref01Check_tbl n) (ref01Check_loops n) ref01Check_an [] n 2 ref01Check_l2 (ref01Check_L2 n) := ⟨[1, 5, 6, 7], fun s => ref01Check_B2 n s.1.1 s.1.2 s.2.1.1 s.2.1.2.1 s.2.1.2.2.1 s.2.1.2.2.2.1 s.2.1.2.2.2.2 s.2.2.1 s.2.2.2.1 s.2.2.2.2.1 s.2.2.2.2.2.1 s.2.2.2.2.2.2, by kernel_rfl, by kernel_rfl, fun s => rfl, fun s => ref01Check_r2 n s.1.1 s.1.2 s.2.1.1 s.2.1.2.1 s.2.1.2.2.1 s.2.1.2.2.2.1 s.2.1.2.2.2.2 s.2.2.1 s.2.2.2.1 s.2.2.2.2.1 s.2.2.2.2.2.1 s.2.2.2.2.2.2⟩
theorem ref01Check_r4 (n : Nat) (t5 : Int) (t8 : Int) (m0 : DG) (m0_1 : DH) (m0_2 : DI) (m0_3 : DC) (m0_4 : DD) (m1 : DA) (m1_1 : Int) (m1_2 : Int) (m1_3 : DA) (m1_4 : DB) : roundK (real _) tab (ref01Check_tbl n) (ref01Check_loops n) ref01Check_an [] ref01Check_l4 4 [1, 5, 6, 8] ref01Check_h4 ref01Check_o4 ((t5, t8), ((m0, (m0_1, (m0_2, (m0_3, m0_4)))), (m1, (m1_1, (m1_2, (m1_3, m1_4)))))) some = ref01Check_B4 n t5 t8 m0 m0_1 m0_2 m0_3 m0_4 m1 m1_1 m1_2 m1_3 m1_4 := by kernel_rfl
theorem ref01Check_f4 (n : Nat) : LoopFact tab (ref01Check_tbl n) (ref01Check_loops n) ref01Check_an [] n 4 ref01Check_l4 (ref01Check_L4 n) := ⟨[1, 5, 6, 8], fun s => ref01Check_B4 n s.1.1 s.1.2 s.2.1.1 s.2.1.2.1 s.2.1.2.2.1 s.2.1.2.2.2.1 s.2.1.2.2.2.2 s.2.2.1 s.2.2.2.1 s.2.2.2.2.1 s.2.2.2.2.2.1 s.2.2.2.2.2.2, by kernel_rfl, by kernel_rfl, fun s => rfl, fun s => ref01Check_r4 n s.1.1 s.1.2 s.2.1.1 s.2.1.2.1 s.2.1.2.2.1 s.2.1.2.2.2.1 s.2.1.2.2.2.2 s.2.2.1 s.2.2.2.1 s.2.2.2.2.1 s.2.2.2.2.2.1 s.2.2.2.2.2.2⟩
theorem ref01Check_r0 (n : Nat) (t5 : Int) (m0 : DG) (m0_1 : DH) (m0_2 : DI) (m0_3 : DC) (m0_4 : DD) : roundK (real _) tab (ref01Check_tbl n) (ref01Check_loops n) ref01Check_an [] ref01Check_l0 0 [1, 5] ref01Check_h0 ref01Check_o0 (t5, (m0, (m0_1, (m0_2, (m0_3, m0_4))))) some = ref01Check_B0 n t5 m0 m0_1 m0_2 m0_3 m0_4 := by kernel_rfl
theorem ref01Check_f0 (n : Nat) : LoopFact tab (ref01Check_tbl n) (ref01Check_loops n) ref01Check_an [] n 0 ref01Check_l0 (ref01Check_L0 n) := ⟨[1, 5], fun s => ref01Check_B0 n s.1 s.2.1 s.2.2.1 s.2.2.2.1 s.2.2.2.2.1 s.2.2.2.2.2, by kernel_rfl, by kernel_rfl, fun s => rfl, fun s => ref01Check_r0 n s.1 s.2.1 s.2.2.1 s.2.2.2.1 s.2.2.2.2.1 s.2.2.2.2.2⟩
theorem ref01Check_r8 (n : Nat) (t9 : Int) (t10 : Bool) (t11 : Int) (m0 : DG) (m0_1 : DH) (m0_2 : DI) (m0_3 : DC) (m0_4 : DD) : roundK (real _) tab (ref01Check_tbl n) (ref01Check_loops n) ref01Check_an [] ref01Check_l8 8 [1, 9, 10, 11] ref01Check_h8 ref01Check_o8 ((t9, (t10, t11)), (m0, (m0_1, (m0_2, (m0_3, m0_4))))) some = ref01Check_B8 n t9 t10 t11 m0 m0_1 m0_2 m0_3 m0_4 := by kernel_rfl
theorem ref01Check_f8 (n : Nat) : LoopFact tab (ref01Check_tbl n) (ref01Check_loops n) ref01Check_an [] n 8 ref01Check_l8 (ref01Check_L8 n) := ⟨[1, 9, 10, 11], fun s => ref01Check_B8 n s.1.1 s.1.2.1 s.1.2.2 s.2.1 s.2.2.1 s.2.2.2.1 s.2.2.2.2.1 s.2.2.2.2.2, by kernel_rfl, by kernel_rfl, fun s => rfl, fun s => ref01Check_r8 n s.1.1 s.1.2.1 s.1.2.2 s.2.1 s.2.2.1 s.2.2.2.1 s.2.2.2.2.1 s.2.2.2.2.2⟩
theorem ref01Check_r6 (n : Nat) (t9 : Int) (m0 : DG) (m0_1 : DH) (m0_2 : DI) (m0_3 : DC) (m0_4 : DD) : roundK (real _) tab (ref01Check_tbl n) (ref01Check_loops n) ref01Check_an [] ref01Check_l6 6 [1, 9] ref01Check_h6 ref01Check_o6 (t9, (m0, (m0_1, (m0_2, (m0_3, m0_4))))) some = ref01Check_B6 n t9 m0 m0_1 m0_2 m0_3 m0_4 := by kernel_rfl
theorem ref01Check_f6 (n : Nat) : LoopFact tab (ref01Check_tbl n) (ref01Check_loops n) ref01Check_an [] n 6 ref01Check_l6 (ref01Check_L6 n) := ⟨[1, 9], fun s => ref01Check_B6 n s.1 s.2.1 s.2.2.1 s.2.2.2.1 s.2.2.2.2.1 s.2.2.2.2.2, by kernel_rfl, by kernel_rfl, fun s => rfl, fun s => ref01Check_r6 n s.1 s.2.1 s.2.2.1 s.2.2.2.1 s.2.2.2.2.1 s.2.2.2.2.2⟩
theorem ref01Check_run (n : Nat) (t0 : DG) (t0_1 : DH) (t0_2 : DI) (t0_3 : DC) (t0_4 : DD) : funDS (real _) tab (ref01Check_tbl n) (ref01Check_loops n) ref01Check_an Try.f15 0 ref01Check_a ref01Check_res (t0, (t0_1, (t0_2, (t0_3, t0_4)))) some = ref01Check n t0 t0_1 t0_2 t0_3 t0_4 := by kernel_rfl
noncomputable def ref01Check_E (n : Nat) : Entry := ⟨ref01Check_a, ref01Check_res, fun d => ref01Check n d.1 d.2.1 d.2.2.1 d.2.2.2.1 d.2.2.2.2⟩
theorem ref01Check_ok (n : Nat) : EOK Try.prog 15 (ref01Check_E n) :=
  EOK.ofS prog_names prog_mixed tab_ok (tbl := ref01Check_tbl n) (loops := ref01Check_loops n) (an := ref01Check_an) (old := []) (n := n) (c := ref01Check_c) (fn := Try.f15) (TblOK.cons (AllE.cons (ref01Module_ok n) AllE.nil) (TblOK.cons (AllE.cons (ref01Named_ok n) AllE.nil) (TblOK.cons (AllE.cons (ref01Host_ok n) AllE.nil) TblOK.nil))) (by kernel_rfl) (by kernel_rfl) (by kernel_rfl) (by kernel_rfl) (fun d => by kernel_rfl) (LT.cons (by kernel_rfl) (ref01Check_f2 n) (LT.cons (by kernel_rfl) (ref01Check_f4 n) (LT.cons (by kernel_rfl) (ref01Check_f0 n) (LT.cons (by kernel_rfl) (ref01Check_f8 n) (LT.cons (by kernel_rfl) (ref01Check_f6 n) LT.nil))))) (fun a => ref01Check_run n a.1 a.2.1 a.2.2.1 a.2.2.2.1 a.2.2.2.2)
noncomputable def saneMain_an : Ann := {}
noncomputable def saneMain_c : Code := (match Try.f16.body with | some c => c | none => .skip)
noncomputable def saneMain_a : StSh := ⟨.normal, [0], (.cons (.agg (.cons (.sl true false yA) (.cons (.sl true true yB) (.cons (.sl true true yC) (.cons (.sl true false (.int .u64)) (.cons (.sl true false .str) .nil)))))) .nil), .nil⟩
noncomputable def saneMain_res : List StSh := [⟨.ret, [0], (.cons .bool .nil), .nil⟩]
noncomputable def saneMain_tbl (n : Nat) : FuncId → List Entry := fun f => bif Nat.beq f 12 then [saneCheck_E n] else []
noncomputable def saneMain_loops (n : Nat) : Nat → Option LEntry := fun f => none
theorem saneMain_run (n : Nat) (m_0 : DG) (m_0_1 : DH) (m_0_2 : DI) (m_0_3 : DC) (m_0_4 : DD) : funDS (real _) tab (saneMain_tbl n) (saneMain_loops n) saneMain_an Try.f16 0 saneMain_a saneMain_res (m_0, (m_0_1, (m_0_2, (m_0_3, m_0_4)))) some = saneMain n m_0 m_0_1 m_0_2 m_0_3 m_0_4 := by kernel_rfl
noncomputable def saneMain_E (n : Nat) : Entry := ⟨saneMain_a, saneMain_res, fun d => saneMain n d.1 d.2.1 d.2.2.1 d.2.2.2.1 d.2.2.2.2⟩
theorem saneMain_ok (n : Nat) : EOK Try.prog 16 (saneMain_E n) :=
  EOK.ofS prog_names prog_mixed tab_ok (tbl := saneMain_tbl n) (loops := saneMain_loops n) (an := saneMain_an) (old := []) (n := n) (c := saneMain_c) (fn := Try.f16) (TblOK.cons (AllE.cons (saneCheck_ok n) AllE.nil) TblOK.nil) (by kernel_rfl) (by kernel_rfl) (by kernel_rfl) (by kernel_rfl) (fun d => by kernel_rfl) LT.nil (fun a => saneMain_run n a.1 a.2.1 a.2.2.1 a.2.2.2.1 a.2.2.2.2)
noncomputable def ref01Main_an : Ann := {}
noncomputable def ref01Main_c : Code := (match Try.f17.body with | some c => c | none => .skip)
noncomputable def ref01Main_a : StSh := ⟨.normal, [0], (.cons (.agg (.cons (.sl true false yA) (.cons (.sl true true yB) (.cons (.sl true true yC) (.cons (.sl true false (.int .u64)) (.cons (.sl true false .str) .nil)))))) .nil), .nil⟩
noncomputable def ref01Main_res : List StSh := [⟨.ret, [0], (.cons .bool .nil), .nil⟩]
noncomputable def ref01Main_tbl (n : Nat) : FuncId → List Entry := fun f => bif Nat.beq f 15 then [ref01Check_E n] else []
noncomputable def ref01Main_loops (n : Nat) : Nat → Option LEntry := fun f => none
theorem ref01Main_run (n : Nat) (m_0 : DG) (m_0_1 : DH) (m_0_2 : DI) (m_0_3 : DC) (m_0_4 : DD) : funDS (real _) tab (ref01Main_tbl n) (ref01Main_loops n) ref01Main_an Try.f17 0 ref01Main_a ref01Main_res (m_0, (m_0_1, (m_0_2, (m_0_3, m_0_4)))) some = ref01Main n m_0 m_0_1 m_0_2 m_0_3 m_0_4 := by kernel_rfl
noncomputable def ref01Main_E (n : Nat) : Entry := ⟨ref01Main_a, ref01Main_res, fun d => ref01Main n d.1 d.2.1 d.2.2.1 d.2.2.2.1 d.2.2.2.2⟩
theorem ref01Main_ok (n : Nat) : EOK Try.prog 17 (ref01Main_E n) :=
  EOK.ofS prog_names prog_mixed tab_ok (tbl := ref01Main_tbl n) (loops := ref01Main_loops n) (an := ref01Main_an) (old := []) (n := n) (c := ref01Main_c) (fn := Try.f17) (TblOK.cons (AllE.cons (ref01Check_ok n) AllE.nil) TblOK.nil) (by kernel_rfl) (by kernel_rfl) (by kernel_rfl) (by kernel_rfl) (fun d => by kernel_rfl) LT.nil (fun a => ref01Main_run n a.1 a.2.1 a.2.2.1 a.2.2.2.1 a.2.2.2.2)
noncomputable def law07SaneChecks_res : List StSh := [⟨.ret, [0], (.cons .bool .nil), .nil⟩]
noncomputable def law07SaneChecks_tbl (n : Nat) : FuncId → List Entry := fun f => bif Nat.beq f 14 then [ref01Light_E n] else bif Nat.beq f 13 then [law07Answers_E n] else bif Nat.beq f 12 then [saneCheck_E n] else bif Nat.beq f 15 then [ref01Check_E n] else bif Nat.beq f 16 then [saneMain_E n] else bif Nat.beq f 17 then [ref01Main_E n] else []
noncomputable def law07SaneChecks_loops (n : Nat) : Nat → Option LEntry := fun f => none
theorem law07SaneChecks_run (n : Nat) (m_0 : DG) (m_0_1 : DH) (m_0_2 : DI) (m_0_3 : DC) (m_0_4 : DD) : funDS (real _) tab (law07SaneChecks_tbl n) (law07SaneChecks_loops n) law07SaneChecks_an Try.f4 0 law07SaneChecks_a law07SaneChecks_res (m_0, (m_0_1, (m_0_2, (m_0_3, m_0_4)))) some = law07SaneChecks n m_0 m_0_1 m_0_2 m_0_3 m_0_4 := by kernel_rfl
noncomputable def law07SaneChecks_E (n : Nat) : Entry := ⟨law07SaneChecks_a, law07SaneChecks_res, fun d => law07SaneChecks n d.1 d.2.1 d.2.2.1 d.2.2.2.1 d.2.2.2.2⟩
theorem law07SaneChecks_ok (n : Nat) : EOK Try.prog 4 (law07SaneChecks_E n) :=
  EOK.ofS prog_names prog_mixed tab_ok (tbl := law07SaneChecks_tbl n) (loops := law07SaneChecks_loops n) (an := law07SaneChecks_an) (old := []) (n := n) (c := law07SaneChecks_c) (fn := Try.f4) (TblOK.cons (AllE.cons (ref01Light_ok n) AllE.nil) (TblOK.cons (AllE.cons (law07Answers_ok n) AllE.nil) (TblOK.cons (AllE.cons (saneCheck_ok n) AllE.nil) (TblOK.cons (AllE.cons (ref01Check_ok n) AllE.nil) (TblOK.cons (AllE.cons (saneMain_ok n) AllE.nil) (TblOK.cons (AllE.cons (ref01Main_ok n) AllE.nil) TblOK.nil)))))) (by kernel_rfl) (by kernel_rfl) (by kernel_rfl) (by kernel_rfl) (fun d => by kernel_rfl) LT.nil (fun a => law07SaneChecks_run n a.1 a.2.1 a.2.2.1 a.2.2.2.1 a.2.2.2.2)
noncomputable def law07SaneMain_an : Ann := {}
noncomputable def law07SaneMain_c : Code := (match Try.f6.body with | some c => c | none => .skip)
noncomputable def law07SaneMain_a : StSh := ⟨.normal, [0, 1], (.cons (.agg (.cons (.int .i64) (.cons (.int .i64) .nil))) (.cons (.sl true true yD) .nil)), .nil⟩
noncomputable def law07SaneMain_res : List StSh := [⟨.ret, [0], (.cons .bool .nil), .nil⟩]
noncomputable def law07SaneMain_tbl (n : Nat) : FuncId → List Entry := fun f => bif Nat.beq f 13 then [law07Answers_E n] else bif Nat.beq f 16 then [saneMain_E n] else []
noncomputable def law07SaneMain_loops (n : Nat) : Nat → Option LEntry := fun f => none
theorem law07SaneMain_run (n : Nat) (ret_0 : Int) (ret_0_1 : Int) (args_1 : DA) : funDS (real _) tab (law07SaneMain_tbl n) (law07SaneMain_loops n) law07SaneMain_an Try.f6 0 law07SaneMain_a law07SaneMain_res ((ret_0, ret_0_1), args_1) some = law07SaneMain n ret_0 ret_0_1 args_1 := by kernel_rfl
noncomputable def law07SaneMain_E (n : Nat) : Entry := ⟨law07SaneMain_a, law07SaneMain_res, fun d => law07SaneMain n d.1.1 d.1.2 d.2⟩
theorem law07SaneMain_ok (n : Nat) : EOK Try.prog 6 (law07SaneMain_E n) :=
  EOK.ofS prog_names prog_mixed tab_ok (tbl := law07SaneMain_tbl n) (loops := law07SaneMain_loops n) (an := law07SaneMain_an) (old := []) (n := n) (c := law07SaneMain_c) (fn := Try.f6) (TblOK.cons (AllE.cons (law07Answers_ok n) AllE.nil) (TblOK.cons (AllE.cons (saneMain_ok n) AllE.nil) TblOK.nil)) (by kernel_rfl) (by kernel_rfl) (by kernel_rfl) (by kernel_rfl) (fun d => by kernel_rfl) LT.nil (fun a => law07SaneMain_run n a.1.1 a.1.2 a.2)
noncomputable def law07SaneHandles_an : Ann := { boxed := [(2, 9)] }
noncomputable def law07SaneHandles_c : Code := (match Try.f5.body with | some c => c | none => .skip)
noncomputable def law07SaneHandles_a : StSh := ⟨.normal, [0, 1], (.cons (.agg (.cons (.int .i64) (.cons (.int .i64) .nil))) (.cons (.int .u8) .nil)), .nil⟩
noncomputable def law07SaneHandles_res : List StSh := [⟨.ret, [0], (.cons .bool .nil), .nil⟩]
noncomputable def law07SaneHandles_tbl (n : Nat) : FuncId → List Entry := fun f => bif Nat.beq f 18 then [ref01Good_E n] else bif Nat.beq f 13 then [law07Answers_E n] else bif Nat.beq f 12 then [saneCheck_E n] else bif Nat.beq f 16 then [saneMain_E n] else []
noncomputable def law07SaneHandles_loops (n : Nat) : Nat → Option LEntry := fun f => none
theorem law07SaneHandles_run (n : Nat) (t0 : Int) (t0_1 : Int) (t1 : Int) : funDS (real _) tab (law07SaneHandles_tbl n) (law07SaneHandles_loops n) law07SaneHandles_an Try.f5 0 law07SaneHandles_a law07SaneHandles_res ((t0, t0_1), t1) some = law07SaneHandles n t0 t0_1 t1 := by kernel_rfl
noncomputable def law07SaneHandles_E (n : Nat) : Entry := ⟨law07SaneHandles_a, law07SaneHandles_res, fun d => law07SaneHandles n d.1.1 d.1.2 d.2⟩
theorem law07SaneHandles_ok (n : Nat) : EOK Try.prog 5 (law07SaneHandles_E n) :=
  EOK.ofS prog_names prog_mixed tab_ok (tbl := law07SaneHandles_tbl n) (loops := law07SaneHandles_loops n) (an := law07SaneHandles_an) (old := []) (n := n) (c := law07SaneHandles_c) (fn := Try.f5) (TblOK.cons (AllE.cons (ref01Good_ok n) AllE.nil) (TblOK.cons (AllE.cons (law07Answers_ok n) AllE.nil) (TblOK.cons (AllE.cons (saneCheck_ok n) AllE.nil) (TblOK.cons (AllE.cons (saneMain_ok n) AllE.nil) TblOK.nil)))) (by kernel_rfl) (by kernel_rfl) (by kernel_rfl) (by kernel_rfl) (fun d => by kernel_rfl) LT.nil (fun a => law07SaneHandles_run n a.1.1 a.1.2 a.2)
end Sx
