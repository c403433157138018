import Derived.Test.YtmfemlkbeehioaaProg
import Derived.Test.YtmfemlkbeehioaaLib32
import Derived.Test.YtmfemlkbeehioaaModRSh
import Derived.KernelRfl
open Go Go.Ab Go.Proofs
set_option linter.unusedVariables false
set_option maxRecDepth 20000
namespace Sx
abbrev yA : Ty := (.sl true (.cons (.int .i64) (.int .i64)))
abbrev yB : Ty := (.cons (.sl true (.cons (.int .i64) (.int .i64))) (.cons (.int .i64) (.cons (.int .i64) (.cons (.sl true (.cons (.int .i64) (.int .i64))) (.sl true (.cons (.int .i64) (.cons (.int .i64) (.int .i64))))))))
abbrev yC : Ty := (.cons (.sl true (.cons (.int .i64) (.int .i64))) (.cons (.int .i64) (.int .i64)))
abbrev yD : Ty := (.cons (.int .i64) (.int .i64))
abbrev yE : Ty := (.cons (.int .i64) (.cons (.int .i64) (.int .i64)))
abbrev yF : Ty := (.sl false (.int .u8))
noncomputable def ti2 : TI := ⟨.int .i64, 1, 8, false, some (.int .i64), false, [.int .i64 0]⟩
noncomputable def ti3 : TI := ⟨.int .i64, 1, 8, false, some (.int .i64), false, [.int .i64 0]⟩
noncomputable def ti4 : TI := ⟨.bool, 1, 1, false, some .bool, false, [.bool false]⟩
noncomputable def ti5 : TI := ⟨.int .u8, 1, 1, false, some (.int .u8), false, [.int .u8 0]⟩
noncomputable def ti6 : TI := ⟨.int .u8, 1, 1, false, some (.int .u8), false, [.int .u8 0]⟩
noncomputable def ti7 : TI := ⟨.st [(0, 1, 2), (1, 1, 3), (2, 1, 4), (3, 1, 6)], 4, 24, true, some (.cons (.int .i64) (.cons (.int .i64) (.cons .bool (.int .u8)))), true, [.int .i64 0, .int .i64 0, .bool false, .int .u8 0]⟩
noncomputable def ti8 : TI := ⟨.st [(0, 1, 2), (1, 1, 3), (2, 1, 4), (3, 1, 6)], 4, 24, true, some (.cons (.int .i64) (.cons (.int .i64) (.cons .bool (.int .u8)))), true, [.int .i64 0, .int .i64 0, .bool false, .int .u8 0]⟩
noncomputable def ti9 : TI := ⟨.str, 1, 16, false, some .str, false, [.string (ByteArray.mk (List.toArray []))]⟩
noncomputable def ti10 : TI := ⟨.str, 1, 16, false, some .str, false, [.string (ByteArray.mk (List.toArray []))]⟩
noncomputable def ti11 : TI := ⟨.str, 1, 16, false, some .str, false, [.string (ByteArray.mk (List.toArray []))]⟩
noncomputable def ti12 : TI := ⟨.int .u64, 1, 8, false, some (.int .u64), false, [.int .u64 0]⟩
noncomputable def ti13 : TI := ⟨.st [(0, 1, 9), (1, 1, 12)], 2, 24, true, some (.cons .str (.int .u64)), false, [.string (ByteArray.mk (List.toArray [])), .int .u64 0]⟩
noncomputable def ti14 : TI := ⟨.st [(0, 1, 9), (1, 1, 12)], 2, 24, true, some (.cons .str (.int .u64)), false, [.string (ByteArray.mk (List.toArray [])), .int .u64 0]⟩
noncomputable def ti15 : TI := ⟨.ptr, 1, 8, false, none, false, [.pointer none]⟩
noncomputable def ti16 : TI := ⟨.ptr, 1, 8, false, none, false, [.pointer none]⟩
noncomputable def ti17 : TI := ⟨.ptr, 1, 8, false, none, false, [.pointer none]⟩
noncomputable def ti18 : TI := ⟨.st [(0, 1, 17)], 1, 8, true, none, false, [.pointer none]⟩
noncomputable def ti19 : TI := ⟨.st [(0, 1, 17)], 1, 8, true, none, false, [.pointer none]⟩
noncomputable def ti21 : TI := ⟨.int .i32, 1, 4, false, some (.int .i32), false, [.int .i32 0]⟩
noncomputable def ti22 : TI := ⟨.st [(0, 1, 3), (1, 1, 3)], 2, 16, true, some (.cons (.int .i64) (.int .i64)), true, [.int .i64 0, .int .i64 0]⟩
noncomputable def ti23 : TI := ⟨.st [(0, 1, 3), (1, 1, 3)], 2, 16, true, some (.cons (.int .i64) (.int .i64)), true, [.int .i64 0, .int .i64 0]⟩
noncomputable def ti24 : TI := ⟨.sl 23, 1, 24, false, some (.sl true (.cons (.int .i64) (.int .i64))), false, [.slice none 0 0]⟩
noncomputable def ti25 : TI := ⟨.sl 40, 1, 24, false, some (.sl true (.cons (.int .i64) (.cons (.int .i64) (.int .i64)))), false, [.slice none 0 0]⟩
noncomputable def ti26 : TI := ⟨.st [(0, 1, 24), (1, 2, 23), (3, 1, 24), (4, 1, 25)], 5, 88, true, some (.cons (.sl true (.cons (.int .i64) (.int .i64))) (.cons (.int .i64) (.cons (.int .i64) (.cons (.sl true (.cons (.int .i64) (.int .i64))) (.sl true (.cons (.int .i64) (.cons (.int .i64) (.int .i64)))))))), false, [.slice none 0 0, .int .i64 0, .int .i64 0, .slice none 0 0, .slice none 0 0]⟩
noncomputable def ti27 : TI := ⟨.st [(0, 1, 24), (1, 2, 23), (3, 1, 24), (4, 1, 25)], 5, 88, true, some (.cons (.sl true (.cons (.int .i64) (.int .i64))) (.cons (.int .i64) (.cons (.int .i64) (.cons (.sl true (.cons (.int .i64) (.int .i64))) (.sl true (.cons (.int .i64) (.cons (.int .i64) (.int .i64)))))))), false, [.slice none 0 0, .int .i64 0, .int .i64 0, .slice none 0 0, .slice none 0 0]⟩
noncomputable def ti28 : TI := ⟨.sl 27, 1, 24, false, some (.sl true (.cons (.sl true (.cons (.int .i64) (.int .i64))) (.cons (.int .i64) (.cons (.int .i64) (.cons (.sl true (.cons (.int .i64) (.int .i64))) (.sl true (.cons (.int .i64) (.cons (.int .i64) (.int .i64))))))))), false, [.slice none 0 0]⟩
noncomputable def ti29 : TI := ⟨.sl 24, 1, 24, false, some (.sl false (.sl true (.cons (.int .i64) (.int .i64)))), false, [.slice none 0 0]⟩
noncomputable def ti30 : TI := ⟨.sl 38, 1, 24, false, some (.sl true (.cons (.sl true (.cons (.int .i64) (.int .i64))) (.cons (.int .i64) (.int .i64)))), false, [.slice none 0 0]⟩
noncomputable def ti31 : TI := ⟨.sl 36, 1, 24, false, some (.sl false (.int .u64)), false, [.slice none 0 0]⟩
noncomputable def ti32 : TI := ⟨.sl 9, 1, 24, false, some (.sl false .str), false, [.slice none 0 0]⟩
noncomputable def ti33 : TI := ⟨.st [(0, 1, 29), (1, 1, 28), (2, 1, 30), (3, 1, 31), (4, 1, 32)], 5, 120, true, some (.cons (.sl false (.sl true (.cons (.int .i64) (.int .i64)))) (.cons (.sl true (.cons (.sl true (.cons (.int .i64) (.int .i64))) (.cons (.int .i64) (.cons (.int .i64) (.cons (.sl true (.cons (.int .i64) (.int .i64))) (.sl true (.cons (.int .i64) (.cons (.int .i64) (.int .i64))))))))) (.cons (.sl true (.cons (.sl true (.cons (.int .i64) (.int .i64))) (.cons (.int .i64) (.int .i64)))) (.cons (.sl false (.int .u64)) (.sl false .str))))), false, [.slice none 0 0, .slice none 0 0, .slice none 0 0, .slice none 0 0, .slice none 0 0]⟩
noncomputable def ti34 : TI := ⟨.st [(0, 1, 29), (1, 1, 28), (2, 1, 30), (3, 1, 31), (4, 1, 32)], 5, 120, true, some (.cons (.sl false (.sl true (.cons (.int .i64) (.int .i64)))) (.cons (.sl true (.cons (.sl true (.cons (.int .i64) (.int .i64))) (.cons (.int .i64) (.cons (.int .i64) (.cons (.sl true (.cons (.int .i64) (.int .i64))) (.sl true (.cons (.int .i64) (.cons (.int .i64) (.int .i64))))))))) (.cons (.sl true (.cons (.sl true (.cons (.int .i64) (.int .i64))) (.cons (.int .i64) (.int .i64)))) (.cons (.sl false (.int .u64)) (.sl false .str))))), false, [.slice none 0 0, .slice none 0 0, .slice none 0 0, .slice none 0 0, .slice none 0 0]⟩
noncomputable def ti35 : TI := ⟨.sl 3, 1, 24, false, some (.sl false (.int .i64)), false, [.slice none 0 0]⟩
noncomputable def ti36 : TI := ⟨.int .u64, 1, 8, false, some (.int .u64), false, [.int .u64 0]⟩
noncomputable def ti37 : TI := ⟨.st [(0, 1, 24), (1, 2, 23)], 3, 40, true, some (.cons (.sl true (.cons (.int .i64) (.int .i64))) (.cons (.int .i64) (.int .i64))), false, [.slice none 0 0, .int .i64 0, .int .i64 0]⟩
noncomputable def ti38 : TI := ⟨.st [(0, 1, 24), (1, 2, 23)], 3, 40, true, some (.cons (.sl true (.cons (.int .i64) (.int .i64))) (.cons (.int .i64) (.int .i64))), false, [.slice none 0 0, .int .i64 0, .int .i64 0]⟩
noncomputable def ti39 : TI := ⟨.st [(0, 1, 3), (1, 1, 3), (2, 1, 3)], 3, 24, true, some (.cons (.int .i64) (.cons (.int .i64) (.int .i64))), true, [.int .i64 0, .int .i64 0, .int .i64 0]⟩
noncomputable def ti40 : TI := ⟨.st [(0, 1, 3), (1, 1, 3), (2, 1, 3)], 3, 24, true, some (.cons (.int .i64) (.cons (.int .i64) (.int .i64))), true, [.int .i64 0, .int .i64 0, .int .i64 0]⟩
noncomputable def ti41 : TI := ⟨.int .i64, 1, 8, false, some (.int .i64), false, [.int .i64 0]⟩
noncomputable def ti49 : TI := ⟨.sl 5, 1, 24, false, some (.sl false (.int .u8)), false, [.slice none 0 0]⟩
noncomputable def ti54 : TI := ⟨.int .u32, 1, 4, false, some (.int .u32), false, [.int .u32 0]⟩
noncomputable def ti62 : TI := ⟨.int .u16, 1, 2, false, some (.int .u16), false, [.int .u16 0]⟩
noncomputable def ti73 : TI := ⟨.sl 49, 1, 24, false, some (.sl false (.sl false (.int .u8))), false, [.slice none 0 0]⟩
noncomputable def ti81 : TI := ⟨.ptr, 1, 8, false, none, false, [.pointer none]⟩
noncomputable def ti82 : TI := ⟨.ptr, 1, 8, false, none, false, [.pointer none]⟩
noncomputable def ti84 : TI := ⟨.st [(0, 1, 82), (1, 1, 3), (2, 1, 4)], 3, 24, true, none, false, [.pointer none, .int .i64 0, .bool false]⟩
noncomputable def ti85 : TI := ⟨.st [(0, 1, 82), (1, 1, 3), (2, 1, 4)], 3, 24, true, none, false, [.pointer none, .int .i64 0, .bool false]⟩
noncomputable def ti122 : TI := ⟨.ptr, 1, 8, false, none, false, [.pointer none]⟩
noncomputable def ti123 : TI := ⟨.st [(0, 1, 49)], 1, 24, true, some (.sl false (.int .u8)), false, [.slice none 0 0]⟩
noncomputable def ti124 : TI := ⟨.st [(0, 1, 49)], 1, 24, true, some (.sl false (.int .u8)), false, [.slice none 0 0]⟩
noncomputable def ti127 : TI := ⟨.int .u64, 1, 8, false, some (.int .u64), false, [.int .u64 0]⟩
noncomputable def ti131 : TI := ⟨.st [(0, 1, 49), (1, 1, 4)], 2, 32, true, some (.cons (.sl false (.int .u8)) .bool), false, [.slice none 0 0, .bool false]⟩
noncomputable def ti132 : TI := ⟨.st [(0, 1, 49), (1, 1, 4)], 2, 32, true, some (.cons (.sl false (.int .u8)) .bool), false, [.slice none 0 0, .bool false]⟩
noncomputable def ti145 : TI := ⟨.arr 2 3, 2, 16, true, none, false, [.int .i64 0, .int .i64 0]⟩
noncomputable def ti149 : TI := ⟨.arr 2 36, 2, 16, true, none, false, [.int .u64 0, .int .u64 0]⟩
noncomputable def ti150 : TI := ⟨.st [(0, 1, 17), (1, 1, 17), (2, 1, 17), (3, 1, 9)], 4, 40, true, none, false, [.pointer none, .pointer none, .pointer none, .string (ByteArray.mk (List.toArray []))]⟩
noncomputable def ti151 : TI := ⟨.st [(0, 1, 17), (1, 1, 17), (2, 1, 17), (3, 1, 9)], 4, 40, true, none, false, [.pointer none, .pointer none, .pointer none, .string (ByteArray.mk (List.toArray []))]⟩
noncomputable def ti152 : TI := ⟨.arr 0 16, 0, 0, true, none, false, []⟩
noncomputable def ti153 : TI := ⟨.st [(0, 0, 152)], 0, 0, true, none, false, []⟩
noncomputable def ti154 : TI := ⟨.st [(0, 0, 152)], 0, 0, true, none, false, []⟩
noncomputable def ti155 : TI := ⟨.int .u8, 1, 1, false, some (.int .u8), false, [.int .u8 0]⟩
noncomputable def ti156 : TI := ⟨.int .u8, 1, 1, false, some (.int .u8), false, [.int .u8 0]⟩
noncomputable def ti158 : TI := ⟨.ptr, 1, 8, false, none, false, [.pointer none]⟩
noncomputable def ti159 : TI := ⟨.int .i32, 1, 4, false, some (.int .i32), false, [.int .i32 0]⟩
noncomputable def ti160 : TI := ⟨.int .i32, 1, 4, false, some (.int .i32), false, [.int .i32 0]⟩
noncomputable def ti163 : TI := ⟨.other, 1, 8, false, none, false, [.pointer none]⟩
noncomputable def tabL : List (Nat × TI) := [(2, ti2), (3, ti3), (4, ti4), (5, ti5), (6, ti6), (7, ti7), (8, ti8), (9, ti9), (10, ti10), (11, ti11), (12, ti12), (13, ti13), (14, ti14), (15, ti15), (16, ti16), (17, ti17), (18, ti18), (19, ti19), (21, ti21), (22, ti22), (23, ti23), (24, ti24), (25, ti25), (26, ti26), (27, ti27), (28, ti28), (29, ti29), (30, ti30), (31, ti31), (32, ti32), (33, ti33), (34, ti34), (35, ti35), (36, ti36), (37, ti37), (38, ti38), (39, ti39), (40, ti40), (41, ti41), (49, ti49), (54, ti54), (62, ti62), (73, ti73), (81, ti81), (82, ti82), (84, ti84), (85, ti85), (122, ti122), (123, ti123), (124, ti124), (127, ti127), (131, ti131), (132, ti132), (145, ti145), (149, ti149), (150, ti150), (151, ti151), (152, ti152), (153, ti153), (154, ti154), (155, ti155), (156, ti156), (158, ti158), (159, ti159), (160, ti160), (163, ti163)]
noncomputable def tab : TypeId → Option TI := fun t => assoc t tabL
theorem tab_ok : TabOK Try.prog tab := (show TabOK Try.prog (fun t => assoc t tabL) from TabOK.of_list _ (by kernel_rfl))
theorem prog_names : namesOK Try.prog = true := by kernel_rfl
theorem prog_mixed : Try.prog.follows .mixedOrders = true := by kernel_rfl
noncomputable def law06ModuleBack_c : Code := (match Try.f7.body with | some c => c | none => .skip)
noncomputable def ref01Light_an : Ann := { live := [(0, [1, 3, 4]), (2, [1, 3, 5]), (4, [1, 3, 6]), (6, [1, 3, 7])] }
noncomputable def ref01Light_c : Code := (match Try.f14.body with | some c => c | none => .skip)
noncomputable def ref01Light_l0 : Code := (match assoc 0 (loopsIn ref01Light_c 0) with | some c => c | none => .skip)
noncomputable def ref01Light_l2 : Code := (match assoc 2 (loopsIn ref01Light_c 0) with | some c => c | none => .skip)
noncomputable def ref01Light_l4 : Code := (match assoc 4 (loopsIn ref01Light_c 0) with | some c => c | none => .skip)
noncomputable def ref01Light_l6 : Code := (match assoc 6 (loopsIn ref01Light_c 0) with | some c => c | none => .skip)
noncomputable def ref01Light_a : StSh := ⟨.normal, [0], (.cons (.agg (.cons (.sl true false yA) (.cons (.sl true true yB) (.cons (.sl true true yC) (.cons (.sl true false (.int .u64)) (.cons (.sl true false .str) .nil)))))) .nil), .nil⟩
noncomputable def ref01Light_h0 : List StSh := [⟨.normal, [1, 3, 4], (.cons (.ptr 0 0 0 0) (.cons (.int .i64) (.cons (.int .i64) .nil))), (.cons (.bcells 0 false 1 (.cons (.sl true false yA) (.cons (.sl true true yB) (.cons (.sl true true yC) (.cons (.sl true false (.int .u64)) (.cons (.sl true false .str) .nil)))))) .nil)⟩]
noncomputable def ref01Light_o0 : List StSh := [⟨.exit 0, [1, 3], (.cons (.ptr 0 0 0 0) (.cons (.int .i64) .nil)), (.cons (.bcells 0 false 1 (.cons (.sl true false yA) (.cons (.sl true true yB) (.cons (.sl true true yC) (.cons (.sl true false (.int .u64)) (.cons (.sl true false .str) .nil)))))) .nil)⟩]
noncomputable def ref01Light_L0 (n : Nat) : LEntry := ⟨ref01Light_h0, ref01Light_o0, ref01Light_W0 n⟩
noncomputable def ref01Light_h2 : List StSh := [⟨.normal, [1, 3, 5], (.cons (.ptr 0 0 0 0) (.cons (.int .i64) (.cons (.int .i64) .nil))), (.cons (.bcells 0 false 1 (.cons (.sl true false yA) (.cons (.sl true true yB) (.cons (.sl true true yC) (.cons (.sl true false (.int .u64)) (.cons (.sl true false .str) .nil)))))) .nil)⟩]
noncomputable def ref01Light_o2 : List StSh := [⟨.exit 2, [1, 3], (.cons (.ptr 0 0 0 0) (.cons (.int .i64) .nil)), (.cons (.bcells 0 false 1 (.cons (.sl true false yA) (.cons (.sl true true yB) (.cons (.sl true true yC) (.cons (.sl true false (.int .u64)) (.cons (.sl true false .str) .nil)))))) .nil)⟩]
noncomputable def ref01Light_L2 (n : Nat) : LEntry := ⟨ref01Light_h2, ref01Light_o2, ref01Light_W2 n⟩
noncomputable def ref01Light_h4 : List StSh := [⟨.normal, [1, 3, 6], (.cons (.ptr 0 0 0 0) (.cons (.int .i64) (.cons (.int .i64) .nil))), (.cons (.bcells 0 false 1 (.cons (.sl true false yA) (.cons (.sl true true yB) (.cons (.sl true true yC) (.cons (.sl true false (.int .u64)) (.cons (.sl true false .str) .nil)))))) .nil)⟩]
noncomputable def ref01Light_o4 : List StSh := [⟨.exit 4, [1, 3], (.cons (.ptr 0 0 0 0) (.cons (.int .i64) .nil)), (.cons (.bcells 0 false 1 (.cons (.sl true false yA) (.cons (.sl true true yB) (.cons (.sl true true yC) (.cons (.sl true false (.int .u64)) (.cons (.sl true false .str) .nil)))))) .nil)⟩]
noncomputable def ref01Light_L4 (n : Nat) : LEntry := ⟨ref01Light_h4, ref01Light_o4, ref01Light_W4 n⟩
noncomputable def ref01Light_h6 : List StSh := [⟨.normal, [1, 3, 7], (.cons (.ptr 0 0 0 0) (.cons (.int .i64) (.cons (.int .i64) .nil))), (.cons (.bcells 0 false 1 (.cons (.sl true false yA) (.cons (.sl true true yB) (.cons (.sl true true yC) (.cons (.sl true false (.int .u64)) (.cons (.sl true false .str) .nil)))))) .nil)⟩]
noncomputable def ref01Light_o6 : List StSh := [⟨.exit 6, [3], (.cons (.int .i64) .nil), (.cons (.bcells 0 false 1 (.cons (.sl true false yA) (.cons (.sl true true yB) (.cons (.sl true true yC) (.cons (.sl true false (.int .u64)) (.cons (.sl true false .str) .nil)))))) .nil)⟩]
noncomputable def ref01Light_L6 (n : Nat) : LEntry := ⟨ref01Light_h6, ref01Light_o6, ref01Light_W6 n⟩
noncomputable def ref01Light_res : List StSh := [⟨.ret, [0], (.cons .bool .nil), .nil⟩]
noncomputable def ref01Light_tbl (n : Nat) : FuncId → List Entry := fun f => []
noncomputable def ref01Light_loops (n : Nat) : Nat → Option LEntry := fun f => bif Nat.beq f 0 then some (ref01Light_L0 n) else bif Nat.beq f 2 then some (ref01Light_L2 n) else bif Nat.beq f 4 then some (ref01Light_L4 n) else bif Nat.beq f 6 then some (ref01Light_L6 n) else none
theorem ref01Light_r0 (n : Nat) (t3 : Int) (t4 : Int) (m0 : DG) (m0_1 : DH) (m0_2 : DI) (m0_3 : DC) (m0_4 : DD) : roundK (real _) tab (ref01Light_tbl n) (ref01Light_loops n) ref01Light_an [] ref01Light_l0 0 [1, 3, 4] ref01Light_h0 ref01Light_o0 ((t3, t4), (m0, (m0_1, (m0_2, (m0_3, m0_4))))) some = ref01Light_B0 n t3 t4 m0 m0_1 m0_2 m0_3 m0_4 := by kernel_rfl
theorem ref01Light_f0 (n : Nat) : LoopFact tab (ref01Light_tbl n) (ref01Light_loops n) ref01Light_an [] n 0 ref01Light_l0 (ref01Light_L0 n) := ⟨[1, 3, 4], (fun s => ref01Light_B0 n s.1.1 s.1.2 s.2.1 s.2.2.1 s.2.2.2.1 s.2.2.2.2.1 s.2.2.2.2.2), by kernel_rfl, by kernel_rfl, fun s => rfl, fun s => ref01Light_r0 n s.1.1 s.1.2 s.2.1 s.2.2.1 s.2.2.2.1 s.2.2.2.2.1 s.2.2.2.2.2⟩
theorem ref01Light_r2 (n : Nat) (t3 : Int) (t5 : Int) (m0 : DG) (m0_1 : DH) (m0_2 : DI) (m0_3 : DC) (m0_4 : DD) : roundK (real _) tab (ref01Light_tbl n) (ref01Light_loops n) ref01Light_an [] ref01Light_l2 2 [1, 3, 5] ref01Light_h2 ref01Light_o2 ((t3, t5), (m0, (m0_1, (m0_2, (m0_3, m0_4))))) some = ref01Light_B2 n t3 t5 m0 m0_1 m0_2 m0_3 m0_4 := by kernel_rfl
theorem ref01Light_f2 (n : Nat) : LoopFact tab (ref01Light_tbl n) (ref01Light_loops n) ref01Light_an [] n 2 ref01Light_l2 (ref01Light_L2 n) := ⟨[1, 3, 5], (fun s => ref01Light_B2 n s.1.1 s.1.2 s.2.1 s.2.2.1 s.2.2.2.1 s.2.2.2.2.1 s.2.2.2.2.2), by kernel_rfl, by kernel_rfl, fun s => rfl, fun s => ref01Light_r2 n s.1.1 s.1.2 s.2.1 s.2.2.1 s.2.2.2.1 s.2.2.2.2.1 s.2.2.2.2.2⟩
theorem ref01Light_r4 (n : Nat) (t3 : Int) (t6 : Int) (m0 : DG) (m0_1 : DH) (m0_2 : DI) (m0_3 : DC) (m0_4 : DD) : roundK (real _) tab (ref01Light_tbl n) (ref01Light_loops n) ref01Light_an [] ref01Light_l4 4 [1, 3, 6] ref01Light_h4 ref01Light_o4 ((t3, t6), (m0, (m0_1, (m0_2, (m0_3, m0_4))))) some = ref01Light_B4 n t3 t6 m0 m0_1 m0_2 m0_3 m0_4 := by kernel_rfl
theorem ref01Light_f4 (n : Nat) : LoopFact tab (ref01Light_tbl n) (ref01Light_loops n) ref01Light_an [] n 4 ref01Light_l4 (ref01Light_L4 n) := ⟨[1, 3, 6], (fun s => ref01Light_B4 n s.1.1 s.1.2 s.2.1 s.2.2.1 s.2.2.2.1 s.2.2.2.2.1 s.2.2.2.2.2), by kernel_rfl, by kernel_rfl, fun s => rfl, fun s => ref01Light_r4 n s.1.1 s.1.2 s.2.1 s.2.2.1 s.2.2.2.1 s.2.2.2.2.1 s.2.2.2.2.2⟩
theorem ref01Light_r6 (n : Nat) (t3 : Int) (t7 : Int) (m0 : DG) (m0_1 : DH) (m0_2 : DI) (m0_3 : DC) (m0_4 : DD) : roundK (real _) tab (ref01Light_tbl n) (ref01Light_loops n) ref01Light_an [] ref01Light_l6 6 [1, 3, 7] ref01Light_h6 ref01Light_o6 ((t3, t7), (m0, (m0_1, (m0_2, (m0_3, m0_4))))) some = ref01Light_B6 n t3 t7 m0 m0_1 m0_2 m0_3 m0_4 := by kernel_rfl
theorem ref01Light_f6 (n : Nat) : LoopFact tab (ref01Light_tbl n) (ref01Light_loops n) ref01Light_an [] n 6 ref01Light_l6 (ref01Light_L6 n) := ⟨[1, 3, 7], (fun s => ref01Light_B6 n s.1.1 s.1.2 s.2.1 s.2.2.1 s.2.2.2.1 s.2.2.2.2.1 s.2.2.2.2.2), by kernel_rfl, by kernel_rfl, fun s => rfl, fun s => ref01Light_r6 n s.1.1 s.1.2 s.2.1 s.2.2.1 s.2.2.2.1 s.2.2.2.2.1 s.2.2.2.2.2⟩
theorem ref01Light_run (n : Nat) (t0 : DG) (t0_1 : DH) (t0_2 : DI) (t0_3 : DC) (t0_4 : DD) : funDS (real _) tab (ref01Light_tbl n) (ref01Light_loops n) ref01Light_an Try.f14 0 ref01Light_a ref01Light_res (t0, (t0_1, (t0_2, (t0_3, t0_4)))) some = ref01Light n t0 t0_1 t0_2 t0_3 t0_4 := by kernel_rfl
noncomputable def ref01Light_E (n : Nat) : Entry := ⟨ref01Light_a, ref01Light_res, fun d => ref01Light n d.1 d.2.1 d.2.2.1 d.2.2.2.1 d.2.2.2.2⟩
theorem ref01Light_ok (n : Nat) : EOK Try.prog 14 (ref01Light_E n) :=
 EOK.ofS prog_names prog_mixed tab_ok (tbl := ref01Light_tbl n) (loops := ref01Light_loops n) (an := ref01Light_an) (old := []) (n := n) (c := ref01Light_c) (fn := Try.f14) TblOK.nil (by kernel_rfl) (by kernel_rfl) (by kernel_rfl) (by kernel_rfl) (fun d => by kernel_rfl) (LT.cons (by kernel_rfl) (ref01Light_f0 n) (LT.cons (by kernel_rfl) (ref01Light_f2 n) (LT.cons (by kernel_rfl) (ref01Light_f4 n) (LT.cons (by kernel_rfl) (ref01Light_f6 n) LT.nil)))) (fun a => ref01Light_run n a.1 a.2.1 a.2.2.1 a.2.2.2.1 a.2.2.2.2)
noncomputable def law06Answers_an : Ann := {}
noncomputable def law06Answers_c : Code := (match Try.f19.body with | some c => c | none => .skip)
noncomputable def law06Answers_a : StSh := ⟨.normal, [], .nil, .nil⟩
noncomputable def moduleEncode_an : Ann := {}
noncomputable def moduleEncode_c : Code := (match Try.f20.body with | some c => c | none => .skip)
noncomputable def moduleEncode_a : StSh := ⟨.normal, [0], (.cons (.agg (.cons (.sl true false yA) (.cons (.sl true true yB) (.cons (.sl true true yC) (.cons (.sl true false (.int .u64)) (.cons (.sl true false .str) .nil)))))) .nil), .nil⟩
noncomputable def moduleFits_an : Ann := {}
noncomputable def moduleFits_c : Code := (match Try.f39.body with | some c => c | none => .skip)
noncomputable def moduleFits_a : StSh := ⟨.normal, [0], (.cons (.agg (.cons (.sl true false yA) (.cons (.sl true true yB) (.cons (.sl true true yC) (.cons (.sl true false (.int .u64)) (.cons (.sl true false .str) .nil)))))) .nil), .nil⟩
noncomputable def ContainsFuncTypeq1_an : Ann := {}
noncomputable def ContainsFuncTypeq1_c : Code := (match Try.f85.body with | some c => c | none => .skip)
noncomputable def ContainsFuncTypeq1_a : StSh := ⟨.normal, [0, 1], (.cons (.sl true false yA) (.cons (.fn 86 .nil (.cons (.ptr 0 0 0 0) .nil)) .nil)), (.cons (.bcells 0 false 1 (.cons (.int .i64) .nil)) .nil)⟩
noncomputable def IndexFuncTypeq1_an : Ann := { live := [(0, [0, 1, 7, 8])] }
noncomputable def IndexFuncTypeq1_c : Code := (match Try.f111.body with | some c => c | none => .skip)
noncomputable def IndexFuncTypeq1_l0 : Code := (match assoc 0 (loopsIn IndexFuncTypeq1_c 0) with | some c => c | none => .skip)
noncomputable def IndexFuncTypeq1_a : StSh := ⟨.normal, [0, 1], (.cons (.sl true false yA) (.cons (.fn 86 .nil (.cons (.ptr 0 0 0 0) .nil)) .nil)), (.cons (.bcells 0 false 1 (.cons (.int .i64) .nil)) .nil)⟩
noncomputable def moduleFits1_an : Ann := {}
noncomputable def moduleFits1_c : Code := (match Try.f86.body with | some c => c | none => .skip)
noncomputable def moduleFits1_a : StSh := ⟨.normal, [0, 1], (.cons (.sl true true yD) (.cons (.ptr 0 0 0 0) .nil)), (.cons (.bcells 0 false 1 (.cons (.int .i64) .nil)) .nil)⟩
noncomputable def moduleGood_an : Ann := {}
noncomputable def moduleGood_c : Code := (match Try.f87.body with | some c => c | none => .skip)
noncomputable def moduleGood_a : StSh := ⟨.normal, [0, 1, 2], (.cons (.sl true true yD) (.cons (.int .i64) (.cons (.int .i64) .nil))), .nil⟩
noncomputable def ContainsFuncType_an : Ann := {}
noncomputable def ContainsFuncType_c : Code := (match Try.f31.body with | some c => c | none => .skip)
noncomputable def ContainsFuncType_a : StSh := ⟨.normal, [0, 1], (.cons (.sl true true yD) (.cons (.fn 112 .nil (.cons (.ptr 0 0 0 0) .nil)) .nil)), (.cons (.bcells 0 false 1 (.cons (.int .i64) .nil)) .nil)⟩
noncomputable def IndexFuncType_an : Ann := { live := [(0, [0, 1, 7, 8])] }
noncomputable def IndexFuncType_c : Code := (match Try.f83.body with | some c => c | none => .skip)
noncomputable def IndexFuncType_l0 : Code := (match assoc 0 (loopsIn IndexFuncType_c 0) with | some c => c | none => .skip)
noncomputable def IndexFuncType_a : StSh := ⟨.normal, [0, 1], (.cons (.sl true true yD) (.cons (.fn 112 .nil (.cons (.ptr 0 0 0 0) .nil)) .nil)), (.cons (.bcells 0 false 1 (.cons (.int .i64) .nil)) .nil)⟩
noncomputable def moduleGood1_an : Ann := {}
noncomputable def moduleGood1_c : Code := (match Try.f112.body with | some c => c | none => .skip)
noncomputable def moduleGood1_a : StSh := ⟨.normal, [0, 1], (.cons (.agg (.cons (.int .i64) (.cons (.int .i64) .nil))) (.cons (.ptr 0 0 0 0) .nil)), (.cons (.bcells 0 false 1 (.cons (.int .i64) .nil)) .nil)⟩
noncomputable def kindGood_an : Ann := {}
noncomputable def kindGood_c : Code := (match Try.f92.body with | some c => c | none => .skip)
noncomputable def kindGood_a : StSh := ⟨.normal, [0, 1], (.cons (.agg (.cons (.int .i64) (.cons (.int .i64) .nil))) (.cons (.int .i64) .nil)), .nil⟩
noncomputable def kindGood_res : List StSh := [⟨.ret, [0], (.cons .bool .nil), .nil⟩]
noncomputable def kindGood_tbl (n : Nat) : FuncId → List Entry := fun f => []
noncomputable def kindGood_loops (n : Nat) : Nat → Option LEntry := fun f => none
theorem kindGood_run (n : Nat) (t_0 : Int) (t_0_1 : Int) (recs_1 : Int) : funDS (real _) tab (kindGood_tbl n) (kindGood_loops n) kindGood_an Try.f92 0 kindGood_a kindGood_res ((t_0, t_0_1), recs_1) some = kindGood n t_0 t_0_1 recs_1 := by kernel_rfl
noncomputable def kindGood_E (n : Nat) : Entry := ⟨kindGood_a, kindGood_res, fun d => kindGood n d.1.1 d.1.2 d.2⟩
theorem kindGood_ok (n : Nat) : EOK Try.prog 92 (kindGood_E n) :=
 EOK.ofS prog_names prog_mixed tab_ok (tbl := kindGood_tbl n) (loops := kindGood_loops n) (an := kindGood_an) (old := []) (n := n) (c := kindGood_c) (fn := Try.f92) TblOK.nil (by kernel_rfl) (by kernel_rfl) (by kernel_rfl) (by kernel_rfl) (fun d => by kernel_rfl) LT.nil (fun a => kindGood_run n a.1.1 a.1.2 a.2)
noncomputable def moduleGood1_res : List StSh := [⟨.ret, [0], (.cons .bool .nil), (.cons (.bcells 0 false 1 (.cons (.int .i64) .nil)) .nil)⟩]
noncomputable def moduleGood1_tbl (n : Nat) : FuncId → List Entry := fun f => bif Nat.beq f 92 then [kindGood_E n] else []
noncomputable def moduleGood1_loops (n : Nat) : Nat → Option LEntry := fun f => none
theorem moduleGood1_run (n : Nat) (t_0 : Int) (t_0_1 : Int) (m0 : Int) : funDS (real _) tab (moduleGood1_tbl n) (moduleGood1_loops n) moduleGood1_an Try.f112 1 moduleGood1_a moduleGood1_res ((t_0, t_0_1), m0) some = moduleGood1 n t_0 t_0_1 m0 := by kernel_rfl
noncomputable def moduleGood1_E (n : Nat) : Entry := ⟨moduleGood1_a, moduleGood1_res, fun d => moduleGood1 n d.1.1 d.1.2 d.2⟩
theorem moduleGood1_ok (n : Nat) : EOK Try.prog 112 (moduleGood1_E n) :=
 EOK.ofS prog_names prog_mixed tab_ok (tbl := moduleGood1_tbl n) (loops := moduleGood1_loops n) (an := moduleGood1_an) (old := [some true]) (n := n) (c := moduleGood1_c) (fn := Try.f112) (TblOK.cons (AllE.cons (kindGood_ok n) AllE.nil) TblOK.nil) (by kernel_rfl) (by kernel_rfl) (by kernel_rfl) (by kernel_rfl) (fun d => by kernel_rfl) LT.nil (fun a => moduleGood1_run n a.1.1 a.1.2 a.2)
noncomputable def IndexFuncType_h0 : List StSh := [⟨.normal, [0, 1, 7, 8], (.cons (.sl true true yD) (.cons (.fn 112 .nil (.cons (.ptr 0 0 0 0) .nil)) (.cons (.int .i64) (.cons (.int .i64) .nil)))), (.cons (.bcells 0 false 1 (.cons (.int .i64) .nil)) .nil)⟩]
noncomputable def IndexFuncType_o0 : List StSh := [⟨.ret, [4], (.cons (.int .i64) .nil), (.cons (.bcells 0 false 1 (.cons (.int .i64) .nil)) .nil)⟩, ⟨.exit 0, [], .nil, (.cons (.bcells 0 false 1 (.cons (.int .i64) .nil)) .nil)⟩]
noncomputable def IndexFuncType_L0 (n : Nat) : LEntry := ⟨IndexFuncType_h0, IndexFuncType_o0, IndexFuncType_W0 n⟩
noncomputable def IndexFuncType_res : List StSh := [⟨.ret, [0], (.cons (.int .i64) .nil), (.cons (.bcells 0 false 1 (.cons (.int .i64) .nil)) .nil)⟩]
noncomputable def IndexFuncType_tbl (n : Nat) : FuncId → List Entry := fun f => bif Nat.beq f 112 then [moduleGood1_E n] else []
noncomputable def IndexFuncType_loops (n : Nat) : Nat → Option LEntry := fun f => bif Nat.beq f 0 then some (IndexFuncType_L0 n) else none
theorem IndexFuncType_r0 (n : Nat) (s_0 : DA) (t7 : Int) (t8 : Int) (m0 : Int) : roundK (real _) tab (IndexFuncType_tbl n) (IndexFuncType_loops n) IndexFuncType_an [some true] IndexFuncType_l0 0 [0, 1, 7, 8] IndexFuncType_h0 IndexFuncType_o0 ((s_0, (t7, t8)), m0) some = IndexFuncType_B0 n s_0 t7 t8 m0 := by kernel_rfl
theorem IndexFuncType_f0 (n : Nat) : LoopFact tab (IndexFuncType_tbl n) (IndexFuncType_loops n) IndexFuncType_an [some true] n 0 IndexFuncType_l0 (IndexFuncType_L0 n) := ⟨[0, 1, 7, 8], (fun s => IndexFuncType_B0 n s.1.1 s.1.2.1 s.1.2.2 s.2), by kernel_rfl, by kernel_rfl, fun s => rfl, fun s => IndexFuncType_r0 n s.1.1 s.1.2.1 s.1.2.2 s.2⟩
theorem IndexFuncType_run (n : Nat) (s_0 : DA) (m0 : Int) : funDS (real _) tab (IndexFuncType_tbl n) (IndexFuncType_loops n) IndexFuncType_an Try.f83 1 IndexFuncType_a IndexFuncType_res (s_0, m0) some = IndexFuncType n s_0 m0 := by kernel_rfl
noncomputable def IndexFuncType_E (n : Nat) : Entry := ⟨IndexFuncType_a, IndexFuncType_res, fun d => IndexFuncType n d.1 d.2⟩
theorem IndexFuncType_ok (n : Nat) : EOK Try.prog 83 (IndexFuncType_E n) :=
 EOK.ofS prog_names prog_mixed tab_ok (tbl := IndexFuncType_tbl n) (loops := IndexFuncType_loops n) (an := IndexFuncType_an) (old := [some true]) (n := n) (c := IndexFuncType_c) (fn := Try.f83) (TblOK.cons (AllE.cons (moduleGood1_ok n) AllE.nil) TblOK.nil) (by kernel_rfl) (by kernel_rfl) (by kernel_rfl) (by kernel_rfl) (fun d => by kernel_rfl) (LT.cons (by kernel_rfl) (IndexFuncType_f0 n) LT.nil) (fun a => IndexFuncType_run n a.1 a.2)
noncomputable def ContainsFuncType_res : List StSh := [⟨.ret, [0], (.cons .bool .nil), (.cons (.bcells 0 false 1 (.cons (.int .i64) .nil)) .nil)⟩]
noncomputable def ContainsFuncType_tbl (n : Nat) : FuncId → List Entry := fun f => bif Nat.beq f 83 then [IndexFuncType_E n] else []
noncomputable def ContainsFuncType_loops (n : Nat) : Nat → Option LEntry := fun f => none
theorem ContainsFuncType_run (n : Nat) (s_0 : DA) (m0 : Int) : funDS (real _) tab (ContainsFuncType_tbl n) (ContainsFuncType_loops n) ContainsFuncType_an Try.f31 1 ContainsFuncType_a ContainsFuncType_res (s_0, m0) some = ContainsFuncType n s_0 m0 := by kernel_rfl
noncomputable def ContainsFuncType_E (n : Nat) : Entry := ⟨ContainsFuncType_a, ContainsFuncType_res, fun d => ContainsFuncType n d.1 d.2⟩
theorem ContainsFuncType_ok (n : Nat) : EOK Try.prog 31 (ContainsFuncType_E n) :=
 EOK.ofS prog_names prog_mixed tab_ok (tbl := ContainsFuncType_tbl n) (loops := ContainsFuncType_loops n) (an := ContainsFuncType_an) (old := [some true]) (n := n) (c := ContainsFuncType_c) (fn := Try.f31) (TblOK.cons (AllE.cons (IndexFuncType_ok n) AllE.nil) TblOK.nil) (by kernel_rfl) (by kernel_rfl) (by kernel_rfl) (by kernel_rfl) (fun d => by kernel_rfl) LT.nil (fun a => ContainsFuncType_run n a.1 a.2)
noncomputable def moduleGood_res : List StSh := [⟨.ret, [0], (.cons .bool .nil), .nil⟩]
noncomputable def moduleGood_tbl (n : Nat) : FuncId → List Entry := fun f => bif Nat.beq f 31 then [ContainsFuncType_E n] else []
noncomputable def moduleGood_loops (n : Nat) : Nat → Option LEntry := fun f => none
theorem moduleGood_run (n : Nat) (list_0 : DA) (recs_1 : Int) (most_2 : Int) : funDS (real _) tab (moduleGood_tbl n) (moduleGood_loops n) moduleGood_an Try.f87 0 moduleGood_a moduleGood_res (list_0, (recs_1, most_2)) some = moduleGood n list_0 recs_1 most_2 := by kernel_rfl
noncomputable def moduleGood_E (n : Nat) : Entry := ⟨moduleGood_a, moduleGood_res, fun d => moduleGood n d.1 d.2.1 d.2.2⟩
theorem moduleGood_ok (n : Nat) : EOK Try.prog 87 (moduleGood_E n) :=
 EOK.ofS prog_names prog_mixed tab_ok (tbl := moduleGood_tbl n) (loops := moduleGood_loops n) (an := moduleGood_an) (old := []) (n := n) (c := moduleGood_c) (fn := Try.f87) (TblOK.cons (AllE.cons (ContainsFuncType_ok n) AllE.nil) TblOK.nil) (by kernel_rfl) (by kernel_rfl) (by kernel_rfl) (by kernel_rfl) (fun d => by kernel_rfl) LT.nil (fun a => moduleGood_run n a.1 a.2.1 a.2.2)
noncomputable def moduleFits1_res : List StSh := [⟨.ret, [0], (.cons .bool .nil), (.cons (.bcells 0 false 1 (.cons (.int .i64) .nil)) .nil)⟩]
noncomputable def moduleFits1_tbl (n : Nat) : FuncId → List Entry := fun f => bif Nat.beq f 87 then [moduleGood_E n] else []
noncomputable def moduleFits1_loops (n : Nat) : Nat → Option LEntry := fun f => none
theorem moduleFits1_run (n : Nat) (l_0 : DA) (m0 : Int) : funDS (real _) tab (moduleFits1_tbl n) (moduleFits1_loops n) moduleFits1_an Try.f86 1 moduleFits1_a moduleFits1_res (l_0, m0) some = moduleFits1 n l_0 m0 := by kernel_rfl
noncomputable def moduleFits1_E (n : Nat) : Entry := ⟨moduleFits1_a, moduleFits1_res, fun d => moduleFits1 n d.1 d.2⟩
theorem moduleFits1_ok (n : Nat) : EOK Try.prog 86 (moduleFits1_E n) :=
 EOK.ofS prog_names prog_mixed tab_ok (tbl := moduleFits1_tbl n) (loops := moduleFits1_loops n) (an := moduleFits1_an) (old := [some true]) (n := n) (c := moduleFits1_c) (fn := Try.f86) (TblOK.cons (AllE.cons (moduleGood_ok n) AllE.nil) TblOK.nil) (by kernel_rfl) (by kernel_rfl) (by kernel_rfl) (by kernel_rfl) (fun d => by kernel_rfl) LT.nil (fun a => moduleFits1_run n a.1 a.2)
noncomputable def IndexFuncTypeq1_h0 : List StSh := [⟨.normal, [0, 1, 7, 8], (.cons (.sl true false yA) (.cons (.fn 86 .nil (.cons (.ptr 0 0 0 0) .nil)) (.cons (.int .i64) (.cons (.int .i64) .nil)))), (.cons (.bcells 0 false 1 (.cons (.int .i64) .nil)) .nil)⟩]
noncomputable def IndexFuncTypeq1_o0 : List StSh := [⟨.ret, [4], (.cons (.int .i64) .nil), (.cons (.bcells 0 false 1 (.cons (.int .i64) .nil)) .nil)⟩, ⟨.exit 0, [], .nil, (.cons (.bcells 0 false 1 (.cons (.int .i64) .nil)) .nil)⟩]
noncomputable def IndexFuncTypeq1_L0 (n : Nat) : LEntry := ⟨IndexFuncTypeq1_h0, IndexFuncTypeq1_o0, IndexFuncTypeq1_W0 n⟩
noncomputable def IndexFuncTypeq1_res : List StSh := [⟨.ret, [0], (.cons (.int .i64) .nil), (.cons (.bcells 0 false 1 (.cons (.int .i64) .nil)) .nil)⟩]
noncomputable def IndexFuncTypeq1_tbl (n : Nat) : FuncId → List Entry := fun f => bif Nat.beq f 86 then [moduleFits1_E n] else []
noncomputable def IndexFuncTypeq1_loops (n : Nat) : Nat → Option LEntry := fun f => bif Nat.beq f 0 then some (IndexFuncTypeq1_L0 n) else none
theorem IndexFuncTypeq1_r0 (n : Nat) (s_0 : DG) (t7 : Int) (t8 : Int) (m0 : Int) : roundK (real _) tab (IndexFuncTypeq1_tbl n) (IndexFuncTypeq1_loops n) IndexFuncTypeq1_an [some true] IndexFuncTypeq1_l0 0 [0, 1, 7, 8] IndexFuncTypeq1_h0 IndexFuncTypeq1_o0 ((s_0, (t7, t8)), m0) some = IndexFuncTypeq1_B0 n s_0 t7 t8 m0 := by kernel_rfl
theorem IndexFuncTypeq1_f0 (n : Nat) : LoopFact tab (IndexFuncTypeq1_tbl n) (IndexFuncTypeq1_loops n) IndexFuncTypeq1_an [some true] n 0 IndexFuncTypeq1_l0 (IndexFuncTypeq1_L0 n) := ⟨[0, 1, 7, 8], (fun s => IndexFuncTypeq1_B0 n s.1.1 s.1.2.1 s.1.2.2 s.2), by kernel_rfl, by kernel_rfl, fun s => rfl, fun s => IndexFuncTypeq1_r0 n s.1.1 s.1.2.1 s.1.2.2 s.2⟩
theorem IndexFuncTypeq1_run (n : Nat) (s_0 : DG) (m0 : Int) : funDS (real _) tab (IndexFuncTypeq1_tbl n) (IndexFuncTypeq1_loops n) IndexFuncTypeq1_an Try.f111 1 IndexFuncTypeq1_a IndexFuncTypeq1_res (s_0, m0) some = IndexFuncTypeq1 n s_0 m0 := by kernel_rfl
noncomputable def IndexFuncTypeq1_E (n : Nat) : Entry := ⟨IndexFuncTypeq1_a, IndexFuncTypeq1_res, fun d => IndexFuncTypeq1 n d.1 d.2⟩
theorem IndexFuncTypeq1_ok (n : Nat) : EOK Try.prog 111 (IndexFuncTypeq1_E n) :=
 EOK.ofS prog_names prog_mixed tab_ok (tbl := IndexFuncTypeq1_tbl n) (loops := IndexFuncTypeq1_loops n) (an := IndexFuncTypeq1_an) (old := [some true]) (n := n) (c := IndexFuncTypeq1_c) (fn := Try.f111) (TblOK.cons (AllE.cons (moduleFits1_ok n) AllE.nil) TblOK.nil) (by kernel_rfl) (by kernel_rfl) (by kernel_rfl) (by kernel_rfl) (fun d => by kernel_rfl) (LT.cons (by kernel_rfl) (IndexFuncTypeq1_f0 n) LT.nil) (fun a => IndexFuncTypeq1_run n a.1 a.2)
noncomputable def ContainsFuncTypeq1_res : List StSh := [⟨.ret, [0], (.cons .bool .nil), (.cons (.bcells 0 false 1 (.cons (.int .i64) .nil)) .nil)⟩]
noncomputable def ContainsFuncTypeq1_tbl (n : Nat) : FuncId → List Entry := fun f => bif Nat.beq f 111 then [IndexFuncTypeq1_E n] else []
noncomputable def ContainsFuncTypeq1_loops (n : Nat) : Nat → Option LEntry := fun f => none
theorem ContainsFuncTypeq1_run (n : Nat) (s_0 : DG) (m0 : Int) : funDS (real _) tab (ContainsFuncTypeq1_tbl n) (ContainsFuncTypeq1_loops n) ContainsFuncTypeq1_an Try.f85 1 ContainsFuncTypeq1_a ContainsFuncTypeq1_res (s_0, m0) some = ContainsFuncTypeq1 n s_0 m0 := by kernel_rfl
noncomputable def ContainsFuncTypeq1_E (n : Nat) : Entry := ⟨ContainsFuncTypeq1_a, ContainsFuncTypeq1_res, fun d => ContainsFuncTypeq1 n d.1 d.2⟩
theorem ContainsFuncTypeq1_ok (n : Nat) : EOK Try.prog 85 (ContainsFuncTypeq1_E n) :=
 EOK.ofS prog_names prog_mixed tab_ok (tbl := ContainsFuncTypeq1_tbl n) (loops := ContainsFuncTypeq1_loops n) (an := ContainsFuncTypeq1_an) (old := [some true]) (n := n) (c := ContainsFuncTypeq1_c) (fn := Try.f85) (TblOK.cons (AllE.cons (IndexFuncTypeq1_ok n) AllE.nil) TblOK.nil) (by kernel_rfl) (by kernel_rfl) (by kernel_rfl) (by kernel_rfl) (fun d => by kernel_rfl) LT.nil (fun a => ContainsFuncTypeq1_run n a.1 a.2)
noncomputable def ContainsFuncFunc_an : Ann := {}
noncomputable def ContainsFuncFunc_c : Code := (match Try.f88.body with | some c => c | none => .skip)
noncomputable def ContainsFuncFunc_a : StSh := ⟨.normal, [0, 1], (.cons (.sl true true yB) (.cons (.fn 89 .nil (.cons (.ptr 0 0 0 0) .nil)) .nil)), (.cons (.bcells 0 false 1 (.cons (.int .i64) .nil)) .nil)⟩
noncomputable def IndexFuncFunc_an : Ann := { live := [(0, [0, 1, 7, 8])] }
noncomputable def IndexFuncFunc_c : Code := (match Try.f113.body with | some c => c | none => .skip)
noncomputable def IndexFuncFunc_l0 : Code := (match assoc 0 (loopsIn IndexFuncFunc_c 0) with | some c => c | none => .skip)
noncomputable def IndexFuncFunc_a : StSh := ⟨.normal, [0, 1], (.cons (.sl true true yB) (.cons (.fn 89 .nil (.cons (.ptr 0 0 0 0) .nil)) .nil)), (.cons (.bcells 0 false 1 (.cons (.int .i64) .nil)) .nil)⟩
noncomputable def moduleFits2_an : Ann := {}
noncomputable def moduleFits2_c : Code := (match Try.f89.body with | some c => c | none => .skip)
noncomputable def moduleFits2_a : StSh := ⟨.normal, [0, 1], (.cons (.agg (.cons (.sl true true yD) (.cons (.int .i64) (.cons (.int .i64) (.cons (.sl true true yD) (.cons (.sl true true yE) .nil)))))) (.cons (.ptr 0 0 0 0) .nil)), (.cons (.bcells 0 false 1 (.cons (.int .i64) .nil)) .nil)⟩
noncomputable def moduleFitFunc_an : Ann := {}
noncomputable def moduleFitFunc_c : Code := (match Try.f90.body with | some c => c | none => .skip)
noncomputable def moduleFitFunc_a : StSh := ⟨.normal, [0, 1], (.cons (.agg (.cons (.sl true true yD) (.cons (.int .i64) (.cons (.int .i64) (.cons (.sl true true yD) (.cons (.sl true true yE) .nil)))))) (.cons (.int .i64) .nil)), .nil⟩
noncomputable def ContainsFuncInstr_an : Ann := {}
noncomputable def ContainsFuncInstr_c : Code := (match Try.f30.body with | some c => c | none => .skip)
noncomputable def ContainsFuncInstr_a : StSh := ⟨.normal, [0, 1], (.cons (.sl true true yE) (.cons (.fn 114 .nil .nil) .nil)), .nil⟩
noncomputable def IndexFuncInstr_an : Ann := { live := [(0, [0, 1, 7, 8])] }
noncomputable def IndexFuncInstr_c : Code := (match Try.f82.body with | some c => c | none => .skip)
noncomputable def IndexFuncInstr_l0 : Code := (match assoc 0 (loopsIn IndexFuncInstr_c 0) with | some c => c | none => .skip)
noncomputable def IndexFuncInstr_a : StSh := ⟨.normal, [0, 1], (.cons (.sl true true yE) (.cons (.fn 114 .nil .nil) .nil)), .nil⟩
noncomputable def moduleFitFunc1_an : Ann := {}
noncomputable def moduleFitFunc1_c : Code := (match Try.f114.body with | some c => c | none => .skip)
noncomputable def moduleFitFunc1_a : StSh := ⟨.normal, [0], (.cons (.agg (.cons (.int .i64) (.cons (.int .i64) (.cons (.int .i64) .nil)))) .nil), .nil⟩
noncomputable def instPut_an : Ann := { live := [(0, [4, 39, 40, 41])], boxed := [(4, 3), (9, 4)] }
noncomputable def instPut_c : Code := (match Try.f99.body with | some c => c | none => .skip)
noncomputable def instPut_l0 : Code := (match assoc 0 (loopsIn instPut_c 0) with | some c => c | none => .skip)
noncomputable def instPut_a : StSh := ⟨.normal, [0], (.cons (.agg (.cons (.int .i64) (.cons (.int .i64) (.cons (.int .i64) .nil)))) .nil), .nil⟩
noncomputable def instArgs_an : Ann := {}
noncomputable def instArgs_c : Code := (match Try.f116.body with | some c => c | none => .skip)
noncomputable def instArgs_a : StSh := ⟨.normal, [0], (.cons (.int .i64) .nil), .nil⟩
noncomputable def instArgs_res : List StSh := [⟨.ret, [0], (.cons (.int .i64) .nil), .nil⟩]
noncomputable def instArgs_tbl (n : Nat) : FuncId → List Entry := fun f => []
noncomputable def instArgs_loops (n : Nat) : Nat → Option LEntry := fun f => none
theorem instArgs_run (n : Nat) (op_0 : Int) : funDS (real _) tab (instArgs_tbl n) (instArgs_loops n) instArgs_an Try.f116 0 instArgs_a instArgs_res op_0 some = instArgs n op_0 := by kernel_rfl
noncomputable def instArgs_E (n : Nat) : Entry := ⟨instArgs_a, instArgs_res, fun d => instArgs n d⟩
theorem instArgs_ok (n : Nat) : EOK Try.prog 116 (instArgs_E n) :=
 EOK.ofS prog_names prog_mixed tab_ok (tbl := instArgs_tbl n) (loops := instArgs_loops n) (an := instArgs_an) (old := []) (n := n) (c := instArgs_c) (fn := Try.f116) TblOK.nil (by kernel_rfl) (by kernel_rfl) (by kernel_rfl) (by kernel_rfl) (fun d => by kernel_rfl) LT.nil (fun a => instArgs_run n a)
noncomputable def instMay_an : Ann := {}
noncomputable def instMay_c : Code := (match Try.f117.body with | some c => c | none => .skip)
noncomputable def instMay_a : StSh := ⟨.normal, [0, 1], (.cons (.int .i64) (.cons .bool .nil)), .nil⟩
noncomputable def instMay_res : List StSh := [⟨.ret, [0], (.cons .bool .nil), .nil⟩]
noncomputable def instMay_tbl (n : Nat) : FuncId → List Entry := fun f => []
noncomputable def instMay_loops (n : Nat) : Nat → Option LEntry := fun f => none
theorem instMay_run (n : Nat) (n_0 : Int) (has_1 : Bool) : funDS (real _) tab (instMay_tbl n) (instMay_loops n) instMay_an Try.f117 0 instMay_a instMay_res (n_0, has_1) some = instMay n n_0 has_1 := by kernel_rfl
noncomputable def instMay_E (n : Nat) : Entry := ⟨instMay_a, instMay_res, fun d => instMay n d.1 d.2⟩
theorem instMay_ok (n : Nat) : EOK Try.prog 117 (instMay_E n) :=
 EOK.ofS prog_names prog_mixed tab_ok (tbl := instMay_tbl n) (loops := instMay_loops n) (an := instMay_an) (old := []) (n := n) (c := instMay_c) (fn := Try.f117) TblOK.nil (by kernel_rfl) (by kernel_rfl) (by kernel_rfl) (by kernel_rfl) (fun d => by kernel_rfl) LT.nil (fun a => instMay_run n a.1 a.2)
noncomputable def numVar_an : Ann := { live := [(0, [0, 3])], boxed := [(0, 0), (1, 0), (4, 5), (5, 4)] }
noncomputable def numVar_c : Code := (match Try.f95.body with | some c => c | none => .skip)
noncomputable def numVar_l0 : Code := (match assoc 0 (loopsIn numVar_c 0) with | some c => c | none => .skip)
noncomputable def numVar_a : StSh := ⟨.normal, [0], (.cons (.int .u64) .nil), .nil⟩
noncomputable def numVar_h0 : List StSh := [⟨.normal, [0, 3], (.cons (.int .u64) (.cons (.msw 0 0) .nil)), (.cons (.bts 0 false false false (.int .u8)) .nil)⟩]
noncomputable def numVar_o0 : List StSh := [⟨.exit 0, [0, 3], (.cons (.int .u64) (.cons (.msw 0 0) .nil)), (.cons (.bts 0 false false false (.int .u8)) .nil)⟩]
noncomputable def numVar_L0 (n : Nat) : LEntry := ⟨numVar_h0, numVar_o0, numVar_W0 n⟩
noncomputable def numVar_res : List StSh := [⟨.ret, [0], (.cons (.msw 0 0) .nil), (.cons (.bts 0 false false false (.int .u8)) .nil)⟩]
noncomputable def numVar_tbl (n : Nat) : FuncId → List Entry := fun f => []
noncomputable def numVar_loops (n : Nat) : Nat → Option LEntry := fun f => bif Nat.beq f 0 then some (numVar_L0 n) else none
theorem numVar_r0 (n : Nat) (v_0 : Int) (m0 : DC) : roundK (real _) tab (numVar_tbl n) (numVar_loops n) numVar_an [] numVar_l0 0 [0, 3] numVar_h0 numVar_o0 (v_0, m0) some = numVar_B0 n v_0 m0 := by kernel_rfl
theorem numVar_f0 (n : Nat) : LoopFact tab (numVar_tbl n) (numVar_loops n) numVar_an [] n 0 numVar_l0 (numVar_L0 n) := ⟨[0, 3], (fun s => numVar_B0 n s.1 s.2), by kernel_rfl, by kernel_rfl, fun s => rfl, fun s => numVar_r0 n s.1 s.2⟩
theorem numVar_run (n : Nat) (v_0 : Int) : funD (real _) tab (numVar_tbl n) (numVar_loops n) numVar_an Try.f95 numVar_a numVar_res v_0 some = numVar n v_0 := by kernel_rfl
noncomputable def numVar_E (n : Nat) : Entry := ⟨numVar_a, numVar_res, fun d => numVar n d⟩
theorem numVar_ok (n : Nat) : EOK Try.prog 95 (numVar_E n) :=
 EOK.of prog_names prog_mixed tab_ok (tbl := numVar_tbl n) (loops := numVar_loops n) (an := numVar_an) (old := []) (n := n) (c := numVar_c) (fn := Try.f95) TblOK.nil (by kernel_rfl) (by kernel_rfl) (by kernel_rfl) (by kernel_rfl) (fun d => by kernel_rfl) (LT.cons (by kernel_rfl) (numVar_f0 n) LT.nil) (fun a => numVar_run n a)
noncomputable def instPut_h0 : List StSh := [⟨.normal, [4, 39, 40, 41], (.cons (.msw 0 0) (.cons (.ms 1 0) (.cons (.int .i64) (.cons (.int .i64) .nil)))), (.cons (.bts 0 false false false (.int .u8)) (.cons (.bcells 0 false 1 (.cons (.int .i64) (.cons (.int .i64) .nil))) .nil))⟩]
noncomputable def instPut_o0 : List StSh := [⟨.exit 0, [4], (.cons (.msw 0 0) .nil), (.cons (.bts 0 false false false (.int .u8)) (.cons (.bcells 0 false 1 (.cons (.int .i64) (.cons (.int .i64) .nil))) .nil))⟩]
noncomputable def instPut_L0 (n : Nat) : LEntry := ⟨instPut_h0, instPut_o0, instPut_W0 n⟩
noncomputable def instPut_res : List StSh := [⟨.ret, [0], (.cons (.sl false false (.int .u8)) .nil), .nil⟩]
noncomputable def instPut_tbl (n : Nat) : FuncId → List Entry := fun f => bif Nat.beq f 116 then [instArgs_E n] else bif Nat.beq f 117 then [instMay_E n] else bif Nat.beq f 95 then [numVar_E n] else []
noncomputable def instPut_loops (n : Nat) : Nat → Option LEntry := fun f => bif Nat.beq f 0 then some (instPut_L0 n) else none
theorem instPut_r0 (n : Nat) (t39 : Nat × Nat) (t40 : Int) (t41 : Int) (m0 : DC) (m1 : Int) (m1_1 : Int) : roundK (real _) tab (instPut_tbl n) (instPut_loops n) instPut_an [] instPut_l0 0 [4, 39, 40, 41] instPut_h0 instPut_o0 ((t39, (t40, t41)), (m0, (m1, m1_1))) some = instPut_B0 n t39 t40 t41 m0 m1 m1_1 := by kernel_rfl
theorem instPut_f0 (n : Nat) : LoopFact tab (instPut_tbl n) (instPut_loops n) instPut_an [] n 0 instPut_l0 (instPut_L0 n) := ⟨[4, 39, 40, 41], (fun s => instPut_B0 n s.1.1 s.1.2.1 s.1.2.2 s.2.1 s.2.2.1 s.2.2.2), by kernel_rfl, by kernel_rfl, fun s => rfl, fun s => instPut_r0 n s.1.1 s.1.2.1 s.1.2.2 s.2.1 s.2.2.1 s.2.2.2⟩
theorem instPut_run (n : Nat) (i_0 : Int) (i_0_1 : Int) (i_0_2 : Int) : funDS (real _) tab (instPut_tbl n) (instPut_loops n) instPut_an Try.f99 0 instPut_a instPut_res (i_0, (i_0_1, i_0_2)) some = instPut n i_0 i_0_1 i_0_2 := by kernel_rfl
noncomputable def instPut_E (n : Nat) : Entry := ⟨instPut_a, instPut_res, fun d => instPut n d.1 d.2.1 d.2.2⟩
theorem instPut_ok (n : Nat) : EOK Try.prog 99 (instPut_E n) :=
 EOK.ofS prog_names prog_mixed tab_ok (tbl := instPut_tbl n) (loops := instPut_loops n) (an := instPut_an) (old := []) (n := n) (c := instPut_c) (fn := Try.f99) (TblOK.cons (AllE.cons (instArgs_ok n) AllE.nil) (TblOK.cons (AllE.cons (instMay_ok n) AllE.nil) (TblOK.cons (AllE.cons (numVar_ok n) AllE.nil) TblOK.nil))) (by kernel_rfl) (by kernel_rfl) (by kernel_rfl) (by kernel_rfl) (fun d => by kernel_rfl) (LT.cons (by kernel_rfl) (instPut_f0 n) LT.nil) (fun a => instPut_run n a.1 a.2.1 a.2.2)
noncomputable def moduleFitFunc1_res : List StSh := [⟨.ret, [0], (.cons .bool .nil), .nil⟩]
noncomputable def moduleFitFunc1_tbl (n : Nat) : FuncId → List Entry := fun f => bif Nat.beq f 99 then [instPut_E n] else []
noncomputable def moduleFitFunc1_loops (n : Nat) : Nat → Option LEntry := fun f => none
theorem moduleFitFunc1_run (n : Nat) (i_0 : Int) (i_0_1 : Int) (i_0_2 : Int) : funDS (real _) tab (moduleFitFunc1_tbl n) (moduleFitFunc1_loops n) moduleFitFunc1_an Try.f114 0 moduleFitFunc1_a moduleFitFunc1_res (i_0, (i_0_1, i_0_2)) some = moduleFitFunc1 n i_0 i_0_1 i_0_2 := by kernel_rfl
noncomputable def moduleFitFunc1_E (n : Nat) : Entry := ⟨moduleFitFunc1_a, moduleFitFunc1_res, fun d => moduleFitFunc1 n d.1 d.2.1 d.2.2⟩
theorem moduleFitFunc1_ok (n : Nat) : EOK Try.prog 114 (moduleFitFunc1_E n) :=
 EOK.ofS prog_names prog_mixed tab_ok (tbl := moduleFitFunc1_tbl n) (loops := moduleFitFunc1_loops n) (an := moduleFitFunc1_an) (old := []) (n := n) (c := moduleFitFunc1_c) (fn := Try.f114) (TblOK.cons (AllE.cons (instPut_ok n) AllE.nil) TblOK.nil) (by kernel_rfl) (by kernel_rfl) (by kernel_rfl) (by kernel_rfl) (fun d => by kernel_rfl) LT.nil (fun a => moduleFitFunc1_run n a.1 a.2.1 a.2.2)
noncomputable def IndexFuncInstr_h0 : List StSh := [⟨.normal, [0, 1, 7, 8], (.cons (.sl true true yE) (.cons (.fn 114 .nil .nil) (.cons (.int .i64) (.cons (.int .i64) .nil)))), .nil⟩]
noncomputable def IndexFuncInstr_o0 : List StSh := [⟨.ret, [4], (.cons (.int .i64) .nil), .nil⟩, ⟨.exit 0, [], .nil, .nil⟩]
noncomputable def IndexFuncInstr_L0 (n : Nat) : LEntry := ⟨IndexFuncInstr_h0, IndexFuncInstr_o0, IndexFuncInstr_W0 n⟩
noncomputable def IndexFuncInstr_res : List StSh := [⟨.ret, [0], (.cons (.int .i64) .nil), .nil⟩]
noncomputable def IndexFuncInstr_tbl (n : Nat) : FuncId → List Entry := fun f => bif Nat.beq f 114 then [moduleFitFunc1_E n] else []
noncomputable def IndexFuncInstr_loops (n : Nat) : Nat → Option LEntry := fun f => bif Nat.beq f 0 then some (IndexFuncInstr_L0 n) else none
theorem IndexFuncInstr_r0 (n : Nat) (s_0 : DB) (t7 : Int) (t8 : Int) : roundK (real _) tab (IndexFuncInstr_tbl n) (IndexFuncInstr_loops n) IndexFuncInstr_an [] IndexFuncInstr_l0 0 [0, 1, 7, 8] IndexFuncInstr_h0 IndexFuncInstr_o0 (s_0, (t7, t8)) some = IndexFuncInstr_B0 n s_0 t7 t8 := by kernel_rfl
theorem IndexFuncInstr_f0 (n : Nat) : LoopFact tab (IndexFuncInstr_tbl n) (IndexFuncInstr_loops n) IndexFuncInstr_an [] n 0 IndexFuncInstr_l0 (IndexFuncInstr_L0 n) := ⟨[0, 1, 7, 8], (fun s => IndexFuncInstr_B0 n s.1 s.2.1 s.2.2), by kernel_rfl, by kernel_rfl, fun s => rfl, fun s => IndexFuncInstr_r0 n s.1 s.2.1 s.2.2⟩
theorem IndexFuncInstr_run (n : Nat) (s_0 : DB) : funDS (real _) tab (IndexFuncInstr_tbl n) (IndexFuncInstr_loops n) IndexFuncInstr_an Try.f82 0 IndexFuncInstr_a IndexFuncInstr_res s_0 some = IndexFuncInstr n s_0 := by kernel_rfl
noncomputable def IndexFuncInstr_E (n : Nat) : Entry := ⟨IndexFuncInstr_a, IndexFuncInstr_res, fun d => IndexFuncInstr n d⟩
theorem IndexFuncInstr_ok (n : Nat) : EOK Try.prog 82 (IndexFuncInstr_E n) :=
 EOK.ofS prog_names prog_mixed tab_ok (tbl := IndexFuncInstr_tbl n) (loops := IndexFuncInstr_loops n) (an := IndexFuncInstr_an) (old := []) (n := n) (c := IndexFuncInstr_c) (fn := Try.f82) (TblOK.cons (AllE.cons (moduleFitFunc1_ok n) AllE.nil) TblOK.nil) (by kernel_rfl) (by kernel_rfl) (by kernel_rfl) (by kernel_rfl) (fun d => by kernel_rfl) (LT.cons (by kernel_rfl) (IndexFuncInstr_f0 n) LT.nil) (fun a => IndexFuncInstr_run n a)
noncomputable def ContainsFuncInstr_res : List StSh := [⟨.ret, [0], (.cons .bool .nil), .nil⟩]
noncomputable def ContainsFuncInstr_tbl (n : Nat) : FuncId → List Entry := fun f => bif Nat.beq f 82 then [IndexFuncInstr_E n] else []
noncomputable def ContainsFuncInstr_loops (n : Nat) : Nat → Option LEntry := fun f => none
theorem ContainsFuncInstr_run (n : Nat) (s_0 : DB) : funDS (real _) tab (ContainsFuncInstr_tbl n) (ContainsFuncInstr_loops n) ContainsFuncInstr_an Try.f30 0 ContainsFuncInstr_a ContainsFuncInstr_res s_0 some = ContainsFuncInstr n s_0 := by kernel_rfl
noncomputable def ContainsFuncInstr_E (n : Nat) : Entry := ⟨ContainsFuncInstr_a, ContainsFuncInstr_res, fun d => ContainsFuncInstr n d⟩
theorem ContainsFuncInstr_ok (n : Nat) : EOK Try.prog 30 (ContainsFuncInstr_E n) :=
 EOK.ofS prog_names prog_mixed tab_ok (tbl := ContainsFuncInstr_tbl n) (loops := ContainsFuncInstr_loops n) (an := ContainsFuncInstr_an) (old := []) (n := n) (c := ContainsFuncInstr_c) (fn := Try.f30) (TblOK.cons (AllE.cons (IndexFuncInstr_ok n) AllE.nil) TblOK.nil) (by kernel_rfl) (by kernel_rfl) (by kernel_rfl) (by kernel_rfl) (fun d => by kernel_rfl) LT.nil (fun a => ContainsFuncInstr_run n a)
noncomputable def moduleFitFunc_res : List StSh := [⟨.ret, [0], (.cons .bool .nil), .nil⟩]
noncomputable def moduleFitFunc_tbl (n : Nat) : FuncId → List Entry := fun f => bif Nat.beq f 87 then [moduleGood_E n] else bif Nat.beq f 92 then [kindGood_E n] else bif Nat.beq f 30 then [ContainsFuncInstr_E n] else []
noncomputable def moduleFitFunc_loops (n : Nat) : Nat → Option LEntry := fun f => none
theorem moduleFitFunc_run (n : Nat) (f_0 : DA) (f_0_1 : Int) (f_0_2 : Int) (f_0_3 : DA) (f_0_4 : DB) (recs_1 : Int) : funDS (real _) tab (moduleFitFunc_tbl n) (moduleFitFunc_loops n) moduleFitFunc_an Try.f90 0 moduleFitFunc_a moduleFitFunc_res ((f_0, (f_0_1, (f_0_2, (f_0_3, f_0_4)))), recs_1) some = moduleFitFunc n f_0 f_0_1 f_0_2 f_0_3 f_0_4 recs_1 := by kernel_rfl
noncomputable def moduleFitFunc_E (n : Nat) : Entry := ⟨moduleFitFunc_a, moduleFitFunc_res, fun d => moduleFitFunc n d.1.1 d.1.2.1 d.1.2.2.1 d.1.2.2.2.1 d.1.2.2.2.2 d.2⟩
theorem moduleFitFunc_ok (n : Nat) : EOK Try.prog 90 (moduleFitFunc_E n) :=
 EOK.ofS prog_names prog_mixed tab_ok (tbl := moduleFitFunc_tbl n) (loops := moduleFitFunc_loops n) (an := moduleFitFunc_an) (old := []) (n := n) (c := moduleFitFunc_c) (fn := Try.f90) (TblOK.cons (AllE.cons (moduleGood_ok n) AllE.nil) (TblOK.cons (AllE.cons (kindGood_ok n) AllE.nil) (TblOK.cons (AllE.cons (ContainsFuncInstr_ok n) AllE.nil) TblOK.nil))) (by kernel_rfl) (by kernel_rfl) (by kernel_rfl) (by kernel_rfl) (fun d => by kernel_rfl) LT.nil (fun a => moduleFitFunc_run n a.1.1 a.1.2.1 a.1.2.2.1 a.1.2.2.2.1 a.1.2.2.2.2 a.2)
noncomputable def moduleFits2_res : List StSh := [⟨.ret, [0], (.cons .bool .nil), (.cons (.bcells 0 false 1 (.cons (.int .i64) .nil)) .nil)⟩]
noncomputable def moduleFits2_tbl (n : Nat) : FuncId → List Entry := fun f => bif Nat.beq f 90 then [moduleFitFunc_E n] else []
noncomputable def moduleFits2_loops (n : Nat) : Nat → Option LEntry := fun f => none
theorem moduleFits2_run (n : Nat) (f_0 : DA) (f_0_1 : Int) (f_0_2 : Int) (f_0_3 : DA) (f_0_4 : DB) (m0 : Int) : funDS (real _) tab (moduleFits2_tbl n) (moduleFits2_loops n) moduleFits2_an Try.f89 1 moduleFits2_a moduleFits2_res ((f_0, (f_0_1, (f_0_2, (f_0_3, f_0_4)))), m0) some = moduleFits2 n f_0 f_0_1 f_0_2 f_0_3 f_0_4 m0 := by kernel_rfl
noncomputable def moduleFits2_E (n : Nat) : Entry := ⟨moduleFits2_a, moduleFits2_res, fun d => moduleFits2 n d.1.1 d.1.2.1 d.1.2.2.1 d.1.2.2.2.1 d.1.2.2.2.2 d.2⟩
theorem moduleFits2_ok (n : Nat) : EOK Try.prog 89 (moduleFits2_E n) :=
 EOK.ofS prog_names prog_mixed tab_ok (tbl := moduleFits2_tbl n) (loops := moduleFits2_loops n) (an := moduleFits2_an) (old := [some true]) (n := n) (c := moduleFits2_c) (fn := Try.f89) (TblOK.cons (AllE.cons (moduleFitFunc_ok n) AllE.nil) TblOK.nil) (by kernel_rfl) (by kernel_rfl) (by kernel_rfl) (by kernel_rfl) (fun d => by kernel_rfl) LT.nil (fun a => moduleFits2_run n a.1.1 a.1.2.1 a.1.2.2.1 a.1.2.2.2.1 a.1.2.2.2.2 a.2)
noncomputable def IndexFuncFunc_h0 : List StSh := [⟨.normal, [0, 1, 7, 8], (.cons (.sl true true yB) (.cons (.fn 89 .nil (.cons (.ptr 0 0 0 0) .nil)) (.cons (.int .i64) (.cons (.int .i64) .nil)))), (.cons (.bcells 0 false 1 (.cons (.int .i64) .nil)) .nil)⟩]
noncomputable def IndexFuncFunc_o0 : List StSh := [⟨.ret, [4], (.cons (.int .i64) .nil), (.cons (.bcells 0 false 1 (.cons (.int .i64) .nil)) .nil)⟩, ⟨.exit 0, [], .nil, (.cons (.bcells 0 false 1 (.cons (.int .i64) .nil)) .nil)⟩]
noncomputable def IndexFuncFunc_L0 (n : Nat) : LEntry := ⟨IndexFuncFunc_h0, IndexFuncFunc_o0, IndexFuncFunc_W0 n⟩
noncomputable def IndexFuncFunc_res : List StSh := [⟨.ret, [0], (.cons (.int .i64) .nil), (.cons (.bcells 0 false 1 (.cons (.int .i64) .nil)) .nil)⟩]
noncomputable def IndexFuncFunc_tbl (n : Nat) : FuncId → List Entry := fun f => bif Nat.beq f 89 then [moduleFits2_E n] else []
noncomputable def IndexFuncFunc_loops (n : Nat) : Nat → Option LEntry := fun f => bif Nat.beq f 0 then some (IndexFuncFunc_L0 n) else none
theorem IndexFuncFunc_r0 (n : Nat) (s_0 : DH) (t7 : Int) (t8 : Int) (m0 : Int) : roundK (real _) tab (IndexFuncFunc_tbl n) (IndexFuncFunc_loops n) IndexFuncFunc_an [some true] IndexFuncFunc_l0 0 [0, 1, 7, 8] IndexFuncFunc_h0 IndexFuncFunc_o0 ((s_0, (t7, t8)), m0) some = IndexFuncFunc_B0 n s_0 t7 t8 m0 := by kernel_rfl
theorem IndexFuncFunc_f0 (n : Nat) : LoopFact tab (IndexFuncFunc_tbl n) (IndexFuncFunc_loops n) IndexFuncFunc_an [some true] n 0 IndexFuncFunc_l0 (IndexFuncFunc_L0 n) := ⟨[0, 1, 7, 8], (fun s => IndexFuncFunc_B0 n s.1.1 s.1.2.1 s.1.2.2 s.2), by kernel_rfl, by kernel_rfl, fun s => rfl, fun s => IndexFuncFunc_r0 n s.1.1 s.1.2.1 s.1.2.2 s.2⟩
theorem IndexFuncFunc_run (n : Nat) (s_0 : DH) (m0 : Int) : funDS (real _) tab (IndexFuncFunc_tbl n) (IndexFuncFunc_loops n) IndexFuncFunc_an Try.f113 1 IndexFuncFunc_a IndexFuncFunc_res (s_0, m0) some = IndexFuncFunc n s_0 m0 := by kernel_rfl
noncomputable def IndexFuncFunc_E (n : Nat) : Entry := ⟨IndexFuncFunc_a, IndexFuncFunc_res, fun d => IndexFuncFunc n d.1 d.2⟩
theorem IndexFuncFunc_ok (n : Nat) : EOK Try.prog 113 (IndexFuncFunc_E n) :=
 EOK.ofS prog_names prog_mixed tab_ok (tbl := IndexFuncFunc_tbl n) (loops := IndexFuncFunc_loops n) (an := IndexFuncFunc_an) (old := [some true]) (n := n) (c := IndexFuncFunc_c) (fn := Try.f113) (TblOK.cons (AllE.cons (moduleFits2_ok n) AllE.nil) TblOK.nil) (by kernel_rfl) (by kernel_rfl) (by kernel_rfl) (by kernel_rfl) (fun d => by kernel_rfl) (LT.cons (by kernel_rfl) (IndexFuncFunc_f0 n) LT.nil) (fun a => IndexFuncFunc_run n a.1 a.2)
noncomputable def ContainsFuncFunc_res : List StSh := [⟨.ret, [0], (.cons .bool .nil), (.cons (.bcells 0 false 1 (.cons (.int .i64) .nil)) .nil)⟩]
noncomputable def ContainsFuncFunc_tbl (n : Nat) : FuncId → List Entry := fun f => bif Nat.beq f 113 then [IndexFuncFunc_E n] else []
noncomputable def ContainsFuncFunc_loops (n : Nat) : Nat → Option LEntry := fun f => none
theorem ContainsFuncFunc_run (n : Nat) (s_0 : DH) (m0 : Int) : funDS (real _) tab (ContainsFuncFunc_tbl n) (ContainsFuncFunc_loops n) ContainsFuncFunc_an Try.f88 1 ContainsFuncFunc_a ContainsFuncFunc_res (s_0, m0) some = ContainsFuncFunc n s_0 m0 := by kernel_rfl
noncomputable def ContainsFuncFunc_E (n : Nat) : Entry := ⟨ContainsFuncFunc_a, ContainsFuncFunc_res, fun d => ContainsFuncFunc n d.1 d.2⟩
theorem ContainsFuncFunc_ok (n : Nat) : EOK Try.prog 88 (ContainsFuncFunc_E n) :=
 EOK.ofS prog_names prog_mixed tab_ok (tbl := ContainsFuncFunc_tbl n) (loops := ContainsFuncFunc_loops n) (an := ContainsFuncFunc_an) (old := [some true]) (n := n) (c := ContainsFuncFunc_c) (fn := Try.f88) (TblOK.cons (AllE.cons (IndexFuncFunc_ok n) AllE.nil) TblOK.nil) (by kernel_rfl) (by kernel_rfl) (by kernel_rfl) (by kernel_rfl) (fun d => by kernel_rfl) LT.nil (fun a => ContainsFuncFunc_run n a.1 a.2)
noncomputable def ContainsFuncImport_an : Ann := {}
noncomputable def ContainsFuncImport_c : Code := (match Try.f36.body with | some c => c | none => .skip)
noncomputable def ContainsFuncImport_a : StSh := ⟨.normal, [0, 1], (.cons (.sl true true yC) (.cons (.fn 91 .nil (.cons (.ptr 0 0 0 0) .nil)) .nil)), (.cons (.bcells 0 false 1 (.cons (.int .i64) .nil)) .nil)⟩
noncomputable def IndexFuncImport_an : Ann := { live := [(0, [0, 1, 7, 8])] }
noncomputable def IndexFuncImport_c : Code := (match Try.f84.body with | some c => c | none => .skip)
noncomputable def IndexFuncImport_l0 : Code := (match assoc 0 (loopsIn IndexFuncImport_c 0) with | some c => c | none => .skip)
noncomputable def IndexFuncImport_a : StSh := ⟨.normal, [0, 1], (.cons (.sl true true yC) (.cons (.fn 91 .nil (.cons (.ptr 0 0 0 0) .nil)) .nil)), (.cons (.bcells 0 false 1 (.cons (.int .i64) .nil)) .nil)⟩
noncomputable def moduleFits3_an : Ann := {}
noncomputable def moduleFits3_c : Code := (match Try.f91.body with | some c => c | none => .skip)
noncomputable def moduleFits3_a : StSh := ⟨.normal, [0, 1], (.cons (.agg (.cons (.sl true true yD) (.cons (.int .i64) (.cons (.int .i64) .nil)))) (.cons (.ptr 0 0 0 0) .nil)), (.cons (.bcells 0 false 1 (.cons (.int .i64) .nil)) .nil)⟩
noncomputable def moduleFits3_res : List StSh := [⟨.ret, [0], (.cons .bool .nil), (.cons (.bcells 0 false 1 (.cons (.int .i64) .nil)) .nil)⟩]
noncomputable def moduleFits3_tbl (n : Nat) : FuncId → List Entry := fun f => bif Nat.beq f 87 then [moduleGood_E n] else bif Nat.beq f 92 then [kindGood_E n] else []
noncomputable def moduleFits3_loops (n : Nat) : Nat → Option LEntry := fun f => none
theorem moduleFits3_run (n : Nat) (i_0 : DA) (i_0_1 : Int) (i_0_2 : Int) (m0 : Int) : funDS (real _) tab (moduleFits3_tbl n) (moduleFits3_loops n) moduleFits3_an Try.f91 1 moduleFits3_a moduleFits3_res ((i_0, (i_0_1, i_0_2)), m0) some = moduleFits3 n i_0 i_0_1 i_0_2 m0 := by kernel_rfl
noncomputable def moduleFits3_E (n : Nat) : Entry := ⟨moduleFits3_a, moduleFits3_res, fun d => moduleFits3 n d.1.1 d.1.2.1 d.1.2.2 d.2⟩
theorem moduleFits3_ok (n : Nat) : EOK Try.prog 91 (moduleFits3_E n) :=
 EOK.ofS prog_names prog_mixed tab_ok (tbl := moduleFits3_tbl n) (loops := moduleFits3_loops n) (an := moduleFits3_an) (old := [some true]) (n := n) (c := moduleFits3_c) (fn := Try.f91) (TblOK.cons (AllE.cons (moduleGood_ok n) AllE.nil) (TblOK.cons (AllE.cons (kindGood_ok n) AllE.nil) TblOK.nil)) (by kernel_rfl) (by kernel_rfl) (by kernel_rfl) (by kernel_rfl) (fun d => by kernel_rfl) LT.nil (fun a => moduleFits3_run n a.1.1 a.1.2.1 a.1.2.2 a.2)
noncomputable def IndexFuncImport_h0 : List StSh := [⟨.normal, [0, 1, 7, 8], (.cons (.sl true true yC) (.cons (.fn 91 .nil (.cons (.ptr 0 0 0 0) .nil)) (.cons (.int .i64) (.cons (.int .i64) .nil)))), (.cons (.bcells 0 false 1 (.cons (.int .i64) .nil)) .nil)⟩]
noncomputable def IndexFuncImport_o0 : List StSh := [⟨.ret, [4], (.cons (.int .i64) .nil), (.cons (.bcells 0 false 1 (.cons (.int .i64) .nil)) .nil)⟩, ⟨.exit 0, [], .nil, (.cons (.bcells 0 false 1 (.cons (.int .i64) .nil)) .nil)⟩]
noncomputable def IndexFuncImport_L0 (n : Nat) : LEntry := ⟨IndexFuncImport_h0, IndexFuncImport_o0, IndexFuncImport_W0 n⟩
noncomputable def IndexFuncImport_res : List StSh := [⟨.ret, [0], (.cons (.int .i64) .nil), (.cons (.bcells 0 false 1 (.cons (.int .i64) .nil)) .nil)⟩]
noncomputable def IndexFuncImport_tbl (n : Nat) : FuncId → List Entry := fun f => bif Nat.beq f 91 then [moduleFits3_E n] else []
noncomputable def IndexFuncImport_loops (n : Nat) : Nat → Option LEntry := fun f => bif Nat.beq f 0 then some (IndexFuncImport_L0 n) else none
theorem IndexFuncImport_r0 (n : Nat) (s_0 : DI) (t7 : Int) (t8 : Int) (m0 : Int) : roundK (real _) tab (IndexFuncImport_tbl n) (IndexFuncImport_loops n) IndexFuncImport_an [some true] IndexFuncImport_l0 0 [0, 1, 7, 8] IndexFuncImport_h0 IndexFuncImport_o0 ((s_0, (t7, t8)), m0) some = IndexFuncImport_B0 n s_0 t7 t8 m0 := by kernel_rfl
theorem IndexFuncImport_f0 (n : Nat) : LoopFact tab (IndexFuncImport_tbl n) (IndexFuncImport_loops n) IndexFuncImport_an [some true] n 0 IndexFuncImport_l0 (IndexFuncImport_L0 n) := ⟨[0, 1, 7, 8], (fun s => IndexFuncImport_B0 n s.1.1 s.1.2.1 s.1.2.2 s.2), by kernel_rfl, by kernel_rfl, fun s => rfl, fun s => IndexFuncImport_r0 n s.1.1 s.1.2.1 s.1.2.2 s.2⟩
theorem IndexFuncImport_run (n : Nat) (s_0 : DI) (m0 : Int) : funDS (real _) tab (IndexFuncImport_tbl n) (IndexFuncImport_loops n) IndexFuncImport_an Try.f84 1 IndexFuncImport_a IndexFuncImport_res (s_0, m0) some = IndexFuncImport n s_0 m0 := by kernel_rfl
noncomputable def IndexFuncImport_E (n : Nat) : Entry := ⟨IndexFuncImport_a, IndexFuncImport_res, fun d => IndexFuncImport n d.1 d.2⟩
theorem IndexFuncImport_ok (n : Nat) : EOK Try.prog 84 (IndexFuncImport_E n) :=
 EOK.ofS prog_names prog_mixed tab_ok (tbl := IndexFuncImport_tbl n) (loops := IndexFuncImport_loops n) (an := IndexFuncImport_an) (old := [some true]) (n := n) (c := IndexFuncImport_c) (fn := Try.f84) (TblOK.cons (AllE.cons (moduleFits3_ok n) AllE.nil) TblOK.nil) (by kernel_rfl) (by kernel_rfl) (by kernel_rfl) (by kernel_rfl) (fun d => by kernel_rfl) (LT.cons (by kernel_rfl) (IndexFuncImport_f0 n) LT.nil) (fun a => IndexFuncImport_run n a.1 a.2)
noncomputable def ContainsFuncImport_res : List StSh := [⟨.ret, [0], (.cons .bool .nil), (.cons (.bcells 0 false 1 (.cons (.int .i64) .nil)) .nil)⟩]
noncomputable def ContainsFuncImport_tbl (n : Nat) : FuncId → List Entry := fun f => bif Nat.beq f 84 then [IndexFuncImport_E n] else []
noncomputable def ContainsFuncImport_loops (n : Nat) : Nat → Option LEntry := fun f => none
theorem ContainsFuncImport_run (n : Nat) (s_0 : DI) (m0 : Int) : funDS (real _) tab (ContainsFuncImport_tbl n) (ContainsFuncImport_loops n) ContainsFuncImport_an Try.f36 1 ContainsFuncImport_a ContainsFuncImport_res (s_0, m0) some = ContainsFuncImport n s_0 m0 := by kernel_rfl
noncomputable def ContainsFuncImport_E (n : Nat) : Entry := ⟨ContainsFuncImport_a, ContainsFuncImport_res, fun d => ContainsFuncImport n d.1 d.2⟩
theorem ContainsFuncImport_ok (n : Nat) : EOK Try.prog 36 (ContainsFuncImport_E n) :=
 EOK.ofS prog_names prog_mixed tab_ok (tbl := ContainsFuncImport_tbl n) (loops := ContainsFuncImport_loops n) (an := ContainsFuncImport_an) (old := [some true]) (n := n) (c := ContainsFuncImport_c) (fn := Try.f36) (TblOK.cons (AllE.cons (IndexFuncImport_ok n) AllE.nil) TblOK.nil) (by kernel_rfl) (by kernel_rfl) (by kernel_rfl) (by kernel_rfl) (fun d => by kernel_rfl) LT.nil (fun a => ContainsFuncImport_run n a.1 a.2)
noncomputable def ContainsFuncString_an : Ann := {}
noncomputable def ContainsFuncString_c : Code := (match Try.f93.body with | some c => c | none => .skip)
noncomputable def ContainsFuncString_a : StSh := ⟨.normal, [0, 1], (.cons (.sl true false .str) (.cons (.fn 94 .nil .nil) .nil)), .nil⟩
noncomputable def IndexFuncString_an : Ann := { live := [(0, [0, 1, 7, 8])] }
noncomputable def IndexFuncString_c : Code := (match Try.f115.body with | some c => c | none => .skip)
noncomputable def IndexFuncString_l0 : Code := (match assoc 0 (loopsIn IndexFuncString_c 0) with | some c => c | none => .skip)
noncomputable def IndexFuncString_a : StSh := ⟨.normal, [0, 1], (.cons (.sl true false .str) (.cons (.fn 94 .nil .nil) .nil)), .nil⟩
noncomputable def moduleFits4_an : Ann := {}
noncomputable def moduleFits4_c : Code := (match Try.f94.body with | some c => c | none => .skip)
noncomputable def moduleFits4_a : StSh := ⟨.normal, [0], (.cons .str .nil), .nil⟩
noncomputable def moduleFits4_res : List StSh := [⟨.ret, [0], (.cons .bool .nil), .nil⟩]
noncomputable def moduleFits4_tbl (n : Nat) : FuncId → List Entry := fun f => []
noncomputable def moduleFits4_loops (n : Nat) : Nat → Option LEntry := fun f => none
theorem moduleFits4_run (n : Nat) (s_0 : ByteArray) : funDS (real _) tab (moduleFits4_tbl n) (moduleFits4_loops n) moduleFits4_an Try.f94 0 moduleFits4_a moduleFits4_res s_0 some = moduleFits4 n s_0 := by kernel_rfl
noncomputable def moduleFits4_E (n : Nat) : Entry := ⟨moduleFits4_a, moduleFits4_res, fun d => moduleFits4 n d⟩
theorem moduleFits4_ok (n : Nat) : EOK Try.prog 94 (moduleFits4_E n) :=
 EOK.ofS prog_names prog_mixed tab_ok (tbl := moduleFits4_tbl n) (loops := moduleFits4_loops n) (an := moduleFits4_an) (old := []) (n := n) (c := moduleFits4_c) (fn := Try.f94) TblOK.nil (by kernel_rfl) (by kernel_rfl) (by kernel_rfl) (by kernel_rfl) (fun d => by kernel_rfl) LT.nil (fun a => moduleFits4_run n a)
noncomputable def IndexFuncString_h0 : List StSh := [⟨.normal, [0, 1, 7, 8], (.cons (.sl true false .str) (.cons (.fn 94 .nil .nil) (.cons (.int .i64) (.cons (.int .i64) .nil)))), .nil⟩]
noncomputable def IndexFuncString_o0 : List StSh := [⟨.ret, [4], (.cons (.int .i64) .nil), .nil⟩, ⟨.exit 0, [], .nil, .nil⟩]
noncomputable def IndexFuncString_L0 (n : Nat) : LEntry := ⟨IndexFuncString_h0, IndexFuncString_o0, IndexFuncString_W0 n⟩
noncomputable def IndexFuncString_res : List StSh := [⟨.ret, [0], (.cons (.int .i64) .nil), .nil⟩]
noncomputable def IndexFuncString_tbl (n : Nat) : FuncId → List Entry := fun f => bif Nat.beq f 94 then [moduleFits4_E n] else []
noncomputable def IndexFuncString_loops (n : Nat) : Nat → Option LEntry := fun f => bif Nat.beq f 0 then some (IndexFuncString_L0 n) else none
theorem IndexFuncString_r0 (n : Nat) (s_0 : DD) (t7 : Int) (t8 : Int) : roundK (real _) tab (IndexFuncString_tbl n) (IndexFuncString_loops n) IndexFuncString_an [] IndexFuncString_l0 0 [0, 1, 7, 8] IndexFuncString_h0 IndexFuncString_o0 (s_0, (t7, t8)) some = IndexFuncString_B0 n s_0 t7 t8 := by kernel_rfl
theorem IndexFuncString_f0 (n : Nat) : LoopFact tab (IndexFuncString_tbl n) (IndexFuncString_loops n) IndexFuncString_an [] n 0 IndexFuncString_l0 (IndexFuncString_L0 n) := ⟨[0, 1, 7, 8], (fun s => IndexFuncString_B0 n s.1 s.2.1 s.2.2), by kernel_rfl, by kernel_rfl, fun s => rfl, fun s => IndexFuncString_r0 n s.1 s.2.1 s.2.2⟩
theorem IndexFuncString_run (n : Nat) (s_0 : DD) : funDS (real _) tab (IndexFuncString_tbl n) (IndexFuncString_loops n) IndexFuncString_an Try.f115 0 IndexFuncString_a IndexFuncString_res s_0 some = IndexFuncString n s_0 := by kernel_rfl
noncomputable def IndexFuncString_E (n : Nat) : Entry := ⟨IndexFuncString_a, IndexFuncString_res, fun d => IndexFuncString n d⟩
theorem IndexFuncString_ok (n : Nat) : EOK Try.prog 115 (IndexFuncString_E n) :=
 EOK.ofS prog_names prog_mixed tab_ok (tbl := IndexFuncString_tbl n) (loops := IndexFuncString_loops n) (an := IndexFuncString_an) (old := []) (n := n) (c := IndexFuncString_c) (fn := Try.f115) (TblOK.cons (AllE.cons (moduleFits4_ok n) AllE.nil) TblOK.nil) (by kernel_rfl) (by kernel_rfl) (by kernel_rfl) (by kernel_rfl) (fun d => by kernel_rfl) (LT.cons (by kernel_rfl) (IndexFuncString_f0 n) LT.nil) (fun a => IndexFuncString_run n a)
noncomputable def ContainsFuncString_res : List StSh := [⟨.ret, [0], (.cons .bool .nil), .nil⟩]
noncomputable def ContainsFuncString_tbl (n : Nat) : FuncId → List Entry := fun f => bif Nat.beq f 115 then [IndexFuncString_E n] else []
noncomputable def ContainsFuncString_loops (n : Nat) : Nat → Option LEntry := fun f => none
theorem ContainsFuncString_run (n : Nat) (s_0 : DD) : funDS (real _) tab (ContainsFuncString_tbl n) (ContainsFuncString_loops n) ContainsFuncString_an Try.f93 0 ContainsFuncString_a ContainsFuncString_res s_0 some = ContainsFuncString n s_0 := by kernel_rfl
noncomputable def ContainsFuncString_E (n : Nat) : Entry := ⟨ContainsFuncString_a, ContainsFuncString_res, fun d => ContainsFuncString n d⟩
theorem ContainsFuncString_ok (n : Nat) : EOK Try.prog 93 (ContainsFuncString_E n) :=
 EOK.ofS prog_names prog_mixed tab_ok (tbl := ContainsFuncString_tbl n) (loops := ContainsFuncString_loops n) (an := ContainsFuncString_an) (old := []) (n := n) (c := ContainsFuncString_c) (fn := Try.f93) (TblOK.cons (AllE.cons (IndexFuncString_ok n) AllE.nil) TblOK.nil) (by kernel_rfl) (by kernel_rfl) (by kernel_rfl) (by kernel_rfl) (fun d => by kernel_rfl) LT.nil (fun a => ContainsFuncString_run n a)
noncomputable def moduleFits_res : List StSh := [⟨.ret, [0], (.cons .bool .nil), .nil⟩]
noncomputable def moduleFits_tbl (n : Nat) : FuncId → List Entry := fun f => bif Nat.beq f 85 then [ContainsFuncTypeq1_E n] else bif Nat.beq f 88 then [ContainsFuncFunc_E n] else bif Nat.beq f 36 then [ContainsFuncImport_E n] else bif Nat.beq f 93 then [ContainsFuncString_E n] else []
noncomputable def moduleFits_loops (n : Nat) : Nat → Option LEntry := fun f => none
theorem moduleFits_run (n : Nat) (t0 : DG) (t0_1 : DH) (t0_2 : DI) (t0_3 : DC) (t0_4 : DD) : funDS (real _) tab (moduleFits_tbl n) (moduleFits_loops n) moduleFits_an Try.f39 0 moduleFits_a moduleFits_res (t0, (t0_1, (t0_2, (t0_3, t0_4)))) some = moduleFits n t0 t0_1 t0_2 t0_3 t0_4 := by kernel_rfl
noncomputable def moduleFits_E (n : Nat) : Entry := ⟨moduleFits_a, moduleFits_res, fun d => moduleFits n d.1 d.2.1 d.2.2.1 d.2.2.2.1 d.2.2.2.2⟩
theorem moduleFits_ok (n : Nat) : EOK Try.prog 39 (moduleFits_E n) :=
 EOK.ofS prog_names prog_mixed tab_ok (tbl := moduleFits_tbl n) (loops := moduleFits_loops n) (an := moduleFits_an) (old := []) (n := n) (c := moduleFits_c) (fn := Try.f39) (TblOK.cons (AllE.cons (ContainsFuncTypeq1_ok n) AllE.nil) (TblOK.cons (AllE.cons (ContainsFuncFunc_ok n) AllE.nil) (TblOK.cons (AllE.cons (ContainsFuncImport_ok n) AllE.nil) (TblOK.cons (AllE.cons (ContainsFuncString_ok n) AllE.nil) TblOK.nil)))) (by kernel_rfl) (by kernel_rfl) (by kernel_rfl) (by kernel_rfl) (fun d => by kernel_rfl) LT.nil (fun a => moduleFits_run n a.1 a.2.1 a.2.2.1 a.2.2.2.1 a.2.2.2.2)
noncomputable def moduleRecords_an : Ann := { live := [(0, [3, 14, 15, 16])] }
noncomputable def moduleRecords_c : Code := (match Try.f41.body with | some c => c | none => .skip)
noncomputable def moduleRecords_l0 : Code := (match assoc 0 (loopsIn moduleRecords_c 0) with | some c => c | none => .skip)
noncomputable def moduleRecords_a : StSh := ⟨.normal, [0], (.cons (.agg (.cons (.sl true false yA) (.cons (.sl true true yB) (.cons (.sl true true yC) (.cons (.sl true false (.int .u64)) (.cons (.sl true false .str) .nil)))))) .nil), .nil⟩
noncomputable def moduleWriterCount_an : Ann := { boxed := [(0, 8)] }
noncomputable def moduleWriterCount_c : Code := (match Try.f96.body with | some c => c | none => .skip)
noncomputable def moduleWriterCount_a : StSh := ⟨.normal, [0, 1], (.cons (.ptr 0 0 0 0) (.cons (.int .i64) .nil)), (.cons (.bcells 0 false 1 (.cons .nilS .nil)) .nil)⟩
noncomputable def moduleWriterCount_res : List StSh := [⟨.ret, [0], (.cons (.tup .nil) .nil), (.cons (.bcells 0 false 1 (.cons (.msw 1 0) .nil)) (.cons (.bts 0 false false false (.int .u8)) .nil))⟩]
noncomputable def moduleWriterCount_tbl (n : Nat) : FuncId → List Entry := fun f => bif Nat.beq f 95 then [numVar_E n] else []
noncomputable def moduleWriterCount_loops (n : Nat) : Nat → Option LEntry := fun f => none
theorem moduleWriterCount_run (n : Nat) (n_1 : Int) : funDS (real _) tab (moduleWriterCount_tbl n) (moduleWriterCount_loops n) moduleWriterCount_an Try.f96 1 moduleWriterCount_a moduleWriterCount_res n_1 some = moduleWriterCount n n_1 := by kernel_rfl
noncomputable def moduleWriterCount_E (n : Nat) : Entry := ⟨moduleWriterCount_a, moduleWriterCount_res, fun d => moduleWriterCount n d⟩
theorem moduleWriterCount_ok (n : Nat) : EOK Try.prog 96 (moduleWriterCount_E n) :=
 EOK.ofS prog_names prog_mixed tab_ok (tbl := moduleWriterCount_tbl n) (loops := moduleWriterCount_loops n) (an := moduleWriterCount_an) (old := [some true]) (n := n) (c := moduleWriterCount_c) (fn := Try.f96) (TblOK.cons (AllE.cons (numVar_ok n) AllE.nil) TblOK.nil) (by kernel_rfl) (by kernel_rfl) (by kernel_rfl) (by kernel_rfl) (fun d => by kernel_rfl) LT.nil (fun a => moduleWriterCount_run n a)
noncomputable def moduleWriterTypes_an : Ann := { live := [(0, [0, 10, 11, 12])], boxed := [(4, 7)] }
noncomputable def moduleWriterTypes_c : Code := (match Try.f97.body with | some c => c | none => .skip)
noncomputable def moduleWriterTypes_l0 : Code := (match assoc 0 (loopsIn moduleWriterTypes_c 0) with | some c => c | none => .skip)
noncomputable def moduleWriterTypes_a : StSh := ⟨.normal, [0, 1], (.cons (.ptr 0 0 0 0) (.cons (.sl true true yD) .nil)), (.cons (.bcells 0 false 1 (.cons (.msw 1 0) .nil)) (.cons (.bts 0 false false false (.int .u8)) .nil))⟩
noncomputable def moduleWriterCountv1_an : Ann := { boxed := [(0, 8)] }
noncomputable def moduleWriterCountv1_c : Code := (match Try.f96.body with | some c => c | none => .skip)
noncomputable def moduleWriterCountv1_a : StSh := ⟨.normal, [0, 1], (.cons (.ptr 0 0 0 0) (.cons (.int .i64) .nil)), (.cons (.bcells 0 false 1 (.cons (.msw 1 0) .nil)) (.cons (.bts 0 false false false (.int .u8)) .nil))⟩
noncomputable def moduleWriterCountv1_res : List StSh := [⟨.ret, [0], (.cons (.tup .nil) .nil), (.cons (.bcells 0 false 1 (.cons (.msw 1 0) .nil)) (.cons (.bts 0 false false false (.int .u8)) .nil))⟩]
noncomputable def moduleWriterCountv1_tbl (n : Nat) : FuncId → List Entry := fun f => bif Nat.beq f 95 then [numVar_E n] else []
noncomputable def moduleWriterCountv1_loops (n : Nat) : Nat → Option LEntry := fun f => none
theorem moduleWriterCountv1_run (n : Nat) (n_1 : Int) (m1 : DC) : funDS (real _) tab (moduleWriterCountv1_tbl n) (moduleWriterCountv1_loops n) moduleWriterCountv1_an Try.f96 2 moduleWriterCountv1_a moduleWriterCountv1_res (n_1, m1) some = moduleWriterCountv1 n n_1 m1 := by kernel_rfl
noncomputable def moduleWriterCountv1_E (n : Nat) : Entry := ⟨moduleWriterCountv1_a, moduleWriterCountv1_res, fun d => moduleWriterCountv1 n d.1 d.2⟩
theorem moduleWriterCountv1_ok (n : Nat) : EOK Try.prog 96 (moduleWriterCountv1_E n) :=
 EOK.ofS prog_names prog_mixed tab_ok (tbl := moduleWriterCountv1_tbl n) (loops := moduleWriterCountv1_loops n) (an := moduleWriterCountv1_an) (old := [some true, some false]) (n := n) (c := moduleWriterCountv1_c) (fn := Try.f96) (TblOK.cons (AllE.cons (numVar_ok n) AllE.nil) TblOK.nil) (by kernel_rfl) (by kernel_rfl) (by kernel_rfl) (by kernel_rfl) (fun d => by kernel_rfl) LT.nil (fun a => moduleWriterCountv1_run n a.1 a.2)
noncomputable def kindPut_an : Ann := { raw := [(1, 4)] }
noncomputable def kindPut_c : Code := (match Try.f98.body with | some c => c | none => .skip)
noncomputable def kindPut_a : StSh := ⟨.normal, [0], (.cons (.agg (.cons (.int .i64) (.cons (.int .i64) .nil))) .nil), .nil⟩
noncomputable def kindPut_res : List StSh := [⟨.ret, [0], (.cons (.sl false false (.int .u8)) .nil), .nil⟩]
noncomputable def kindPut_tbl (n : Nat) : FuncId → List Entry := fun f => bif Nat.beq f 95 then [numVar_E n] else []
noncomputable def kindPut_loops (n : Nat) : Nat → Option LEntry := fun f => none
theorem kindPut_run (n : Nat) (t_0 : Int) (t_0_1 : Int) : funDS (real _) tab (kindPut_tbl n) (kindPut_loops n) kindPut_an Try.f98 0 kindPut_a kindPut_res (t_0, t_0_1) some = kindPut n t_0 t_0_1 := by kernel_rfl
noncomputable def kindPut_E (n : Nat) : Entry := ⟨kindPut_a, kindPut_res, fun d => kindPut n d.1 d.2⟩
theorem kindPut_ok (n : Nat) : EOK Try.prog 98 (kindPut_E n) :=
 EOK.ofS prog_names prog_mixed tab_ok (tbl := kindPut_tbl n) (loops := kindPut_loops n) (an := kindPut_an) (old := []) (n := n) (c := kindPut_c) (fn := Try.f98) (TblOK.cons (AllE.cons (numVar_ok n) AllE.nil) TblOK.nil) (by kernel_rfl) (by kernel_rfl) (by kernel_rfl) (by kernel_rfl) (fun d => by kernel_rfl) LT.nil (fun a => kindPut_run n a.1 a.2)
noncomputable def moduleWriterTypes_h0 : List StSh := [⟨.normal, [0, 10, 11, 12], (.cons (.ptr 0 0 0 0) (.cons (.sl true true yD) (.cons (.int .i64) (.cons (.int .i64) .nil)))), (.cons (.bcells 0 false 1 (.cons (.msw 1 0) .nil)) (.cons (.bts 0 false false false (.int .u8)) .nil))⟩]
noncomputable def moduleWriterTypes_o0 : List StSh := [⟨.exit 0, [], .nil, (.cons (.bcells 0 false 1 (.cons (.msw 1 0) .nil)) (.cons (.bts 0 false false false (.int .u8)) .nil))⟩]
noncomputable def moduleWriterTypes_L0 (n : Nat) : LEntry := ⟨moduleWriterTypes_h0, moduleWriterTypes_o0, moduleWriterTypes_W0 n⟩
noncomputable def moduleWriterTypes_res : List StSh := [⟨.ret, [0], (.cons (.tup .nil) .nil), (.cons (.bcells 0 false 1 (.cons (.msw 1 0) .nil)) (.cons (.bts 0 false false false (.int .u8)) .nil))⟩]
noncomputable def moduleWriterTypes_tbl (n : Nat) : FuncId → List Entry := fun f => bif Nat.beq f 96 then [moduleWriterCountv1_E n] else bif Nat.beq f 98 then [kindPut_E n] else []
noncomputable def moduleWriterTypes_loops (n : Nat) : Nat → Option LEntry := fun f => bif Nat.beq f 0 then some (moduleWriterTypes_L0 n) else none
theorem moduleWriterTypes_r0 (n : Nat) (t10 : DA) (t11 : Int) (t12 : Int) (m1 : DC) : roundK (real _) tab (moduleWriterTypes_tbl n) (moduleWriterTypes_loops n) moduleWriterTypes_an [some true, some false] moduleWriterTypes_l0 0 [0, 10, 11, 12] moduleWriterTypes_h0 moduleWriterTypes_o0 ((t10, (t11, t12)), m1) some = moduleWriterTypes_B0 n t10 t11 t12 m1 := by kernel_rfl
theorem moduleWriterTypes_f0 (n : Nat) : LoopFact tab (moduleWriterTypes_tbl n) (moduleWriterTypes_loops n) moduleWriterTypes_an [some true, some false] n 0 moduleWriterTypes_l0 (moduleWriterTypes_L0 n) := ⟨[0, 10, 11, 12], (fun s => moduleWriterTypes_B0 n s.1.1 s.1.2.1 s.1.2.2 s.2), by kernel_rfl, by kernel_rfl, fun s => rfl, fun s => moduleWriterTypes_r0 n s.1.1 s.1.2.1 s.1.2.2 s.2⟩
theorem moduleWriterTypes_run (n : Nat) (list_1 : DA) (m1 : DC) : funDS (real _) tab (moduleWriterTypes_tbl n) (moduleWriterTypes_loops n) moduleWriterTypes_an Try.f97 2 moduleWriterTypes_a moduleWriterTypes_res (list_1, m1) some = moduleWriterTypes n list_1 m1 := by kernel_rfl
noncomputable def moduleWriterTypes_E (n : Nat) : Entry := ⟨moduleWriterTypes_a, moduleWriterTypes_res, fun d => moduleWriterTypes n d.1 d.2⟩
theorem moduleWriterTypes_ok (n : Nat) : EOK Try.prog 97 (moduleWriterTypes_E n) :=
 EOK.ofS prog_names prog_mixed tab_ok (tbl := moduleWriterTypes_tbl n) (loops := moduleWriterTypes_loops n) (an := moduleWriterTypes_an) (old := [some true, some false]) (n := n) (c := moduleWriterTypes_c) (fn := Try.f97) (TblOK.cons (AllE.cons (moduleWriterCountv1_ok n) AllE.nil) (TblOK.cons (AllE.cons (kindPut_ok n) AllE.nil) TblOK.nil)) (by kernel_rfl) (by kernel_rfl) (by kernel_rfl) (by kernel_rfl) (fun d => by kernel_rfl) (LT.cons (by kernel_rfl) (moduleWriterTypes_f0 n) LT.nil) (fun a => moduleWriterTypes_run n a.1 a.2)
noncomputable def moduleRecords_h0 : List StSh := [⟨.normal, [3, 14, 15, 16], (.cons (.ptr 0 0 0 0) (.cons (.sl true false yA) (.cons (.int .i64) (.cons (.int .i64) .nil)))), (.cons (.bcells 0 false 1 (.cons (.msw 1 0) .nil)) (.cons (.bts 0 false false false (.int .u8)) .nil))⟩]
noncomputable def moduleRecords_o0 : List StSh := [⟨.exit 0, [3], (.cons (.ptr 0 0 0 0) .nil), (.cons (.bcells 0 false 1 (.cons (.msw 1 0) .nil)) (.cons (.bts 0 false false false (.int .u8)) .nil))⟩]
noncomputable def moduleRecords_L0 (n : Nat) : LEntry := ⟨moduleRecords_h0, moduleRecords_o0, moduleRecords_W0 n⟩
noncomputable def moduleRecords_res : List StSh := [⟨.ret, [0], (.cons (.sl false false (.int .u8)) .nil), .nil⟩]
noncomputable def moduleRecords_tbl (n : Nat) : FuncId → List Entry := fun f => bif Nat.beq f 96 then [moduleWriterCount_E n] else bif Nat.beq f 97 then [moduleWriterTypes_E n] else []
noncomputable def moduleRecords_loops (n : Nat) : Nat → Option LEntry := fun f => bif Nat.beq f 0 then some (moduleRecords_L0 n) else none
theorem moduleRecords_r0 (n : Nat) (t14 : DG) (t15 : Int) (t16 : Int) (m1 : DC) : roundK (real _) tab (moduleRecords_tbl n) (moduleRecords_loops n) moduleRecords_an [] moduleRecords_l0 0 [3, 14, 15, 16] moduleRecords_h0 moduleRecords_o0 ((t14, (t15, t16)), m1) some = moduleRecords_B0 n t14 t15 t16 m1 := by kernel_rfl
theorem moduleRecords_f0 (n : Nat) : LoopFact tab (moduleRecords_tbl n) (moduleRecords_loops n) moduleRecords_an [] n 0 moduleRecords_l0 (moduleRecords_L0 n) := ⟨[3, 14, 15, 16], (fun s => moduleRecords_B0 n s.1.1 s.1.2.1 s.1.2.2 s.2), by kernel_rfl, by kernel_rfl, fun s => rfl, fun s => moduleRecords_r0 n s.1.1 s.1.2.1 s.1.2.2 s.2⟩
theorem moduleRecords_run (n : Nat) (m_0 : DG) (m_0_1 : DH) (m_0_2 : DI) (m_0_3 : DC) (m_0_4 : DD) : funDS (real _) tab (moduleRecords_tbl n) (moduleRecords_loops n) moduleRecords_an Try.f41 0 moduleRecords_a moduleRecords_res (m_0, (m_0_1, (m_0_2, (m_0_3, m_0_4)))) some = moduleRecords n m_0 m_0_1 m_0_2 m_0_3 m_0_4 := by kernel_rfl
noncomputable def moduleRecords_E (n : Nat) : Entry := ⟨moduleRecords_a, moduleRecords_res, fun d => moduleRecords n d.1 d.2.1 d.2.2.1 d.2.2.2.1 d.2.2.2.2⟩
theorem moduleRecords_ok (n : Nat) : EOK Try.prog 41 (moduleRecords_E n) :=
 EOK.ofS prog_names prog_mixed tab_ok (tbl := moduleRecords_tbl n) (loops := moduleRecords_loops n) (an := moduleRecords_an) (old := []) (n := n) (c := moduleRecords_c) (fn := Try.f41) (TblOK.cons (AllE.cons (moduleWriterCount_ok n) AllE.nil) (TblOK.cons (AllE.cons (moduleWriterTypes_ok n) AllE.nil) TblOK.nil)) (by kernel_rfl) (by kernel_rfl) (by kernel_rfl) (by kernel_rfl) (fun d => by kernel_rfl) (LT.cons (by kernel_rfl) (moduleRecords_f0 n) LT.nil) (fun a => moduleRecords_run n a.1 a.2.1 a.2.2.1 a.2.2.2.1 a.2.2.2.2)
noncomputable def moduleFunctions_an : Ann := { live := [(0, [3, 16, 17, 18]), (2, [3, 16, 17, 18, 47, 48, 49])], boxed := [(7, 8), (13, 7)] }
noncomputable def moduleFunctions_c : Code := (match Try.f42.body with | some c => c | none => .skip)
noncomputable def moduleFunctions_l0 : Code := (match assoc 0 (loopsIn moduleFunctions_c 0) with | some c => c | none => .skip)
noncomputable def moduleFunctions_l2 : Code := (match assoc 2 (loopsIn moduleFunctions_c 0) with | some c => c | none => .skip)
noncomputable def moduleFunctions_a : StSh := ⟨.normal, [0], (.cons (.agg (.cons (.sl true false yA) (.cons (.sl true true yB) (.cons (.sl true true yC) (.cons (.sl true false (.int .u64)) (.cons (.sl true false .str) .nil)))))) .nil), .nil⟩
noncomputable def moduleFunctions_h2 : List StSh := [⟨.normal, [3, 16, 17, 18, 47, 48, 49], (.cons (.ptr 0 0 0 0) (.cons (.sl true true yB) (.cons (.int .i64) (.cons (.int .i64) (.cons (.sl true true yE) (.cons (.int .i64) (.cons (.int .i64) .nil))))))), (.cons (.bcells 0 false 1 (.cons (.msw 1 0) .nil)) (.cons (.bts 0 false false false (.int .u8)) .nil))⟩]
noncomputable def moduleFunctions_o2 : List StSh := [⟨.exit 2, [3, 16, 17, 18], (.cons (.ptr 0 0 0 0) (.cons (.sl true true yB) (.cons (.int .i64) (.cons (.int .i64) .nil)))), (.cons (.bcells 0 false 1 (.cons (.msw 1 0) .nil)) (.cons (.bts 0 false false false (.int .u8)) .nil))⟩]
noncomputable def moduleFunctions_L2 (n : Nat) : LEntry := ⟨moduleFunctions_h2, moduleFunctions_o2, moduleFunctions_W2 n⟩
noncomputable def moduleFunctions_h0 : List StSh := [⟨.normal, [3, 16, 17, 18], (.cons (.ptr 0 0 0 0) (.cons (.sl true true yB) (.cons (.int .i64) (.cons (.int .i64) .nil)))), (.cons (.bcells 0 false 1 (.cons (.msw 1 0) .nil)) (.cons (.bts 0 false false false (.int .u8)) .nil))⟩]
noncomputable def moduleFunctions_o0 : List StSh := [⟨.exit 0, [3], (.cons (.ptr 0 0 0 0) .nil), (.cons (.bcells 0 false 1 (.cons (.msw 1 0) .nil)) (.cons (.bts 0 false false false (.int .u8)) .nil))⟩]
noncomputable def moduleFunctions_L0 (n : Nat) : LEntry := ⟨moduleFunctions_h0, moduleFunctions_o0, moduleFunctions_W0 n⟩
noncomputable def moduleFunctions_res : List StSh := [⟨.ret, [0], (.cons (.sl false false (.int .u8)) .nil), .nil⟩]
noncomputable def moduleFunctions_tbl (n : Nat) : FuncId → List Entry := fun f => bif Nat.beq f 96 then [moduleWriterCount_E n, moduleWriterCountv1_E n] else bif Nat.beq f 97 then [moduleWriterTypes_E n] else bif Nat.beq f 98 then [kindPut_E n] else bif Nat.beq f 99 then [instPut_E n] else []
noncomputable def moduleFunctions_loops (n : Nat) : Nat → Option LEntry := fun f => bif Nat.beq f 2 then some (moduleFunctions_L2 n) else bif Nat.beq f 0 then some (moduleFunctions_L0 n) else none
theorem moduleFunctions_r2 (n : Nat) (t16 : DH) (t17 : Int) (t18 : Int) (t47 : DB) (t48 : Int) (t49 : Int) (m1 : DC) : roundK (real _) tab (moduleFunctions_tbl n) (moduleFunctions_loops n) moduleFunctions_an [] moduleFunctions_l2 2 [3, 16, 17, 18, 47, 48, 49] moduleFunctions_h2 moduleFunctions_o2 ((t16, (t17, (t18, (t47, (t48, t49))))), m1) some = moduleFunctions_B2 n t16 t17 t18 t47 t48 t49 m1 := by kernel_rfl
theorem moduleFunctions_f2 (n : Nat) : LoopFact tab (moduleFunctions_tbl n) (moduleFunctions_loops n) moduleFunctions_an [] n 2 moduleFunctions_l2 (moduleFunctions_L2 n) := ⟨[3, 16, 17, 18, 47, 48, 49], (fun s => moduleFunctions_B2 n s.1.1 s.1.2.1 s.1.2.2.1 s.1.2.2.2.1 s.1.2.2.2.2.1 s.1.2.2.2.2.2 s.2), by kernel_rfl, by kernel_rfl, fun s => rfl, fun s => moduleFunctions_r2 n s.1.1 s.1.2.1 s.1.2.2.1 s.1.2.2.2.1 s.1.2.2.2.2.1 s.1.2.2.2.2.2 s.2⟩
theorem moduleFunctions_r0 (n : Nat) (t16 : DH) (t17 : Int) (t18 : Int) (m1 : DC) : roundK (real _) tab (moduleFunctions_tbl n) (moduleFunctions_loops n) moduleFunctions_an [] moduleFunctions_l0 0 [3, 16, 17, 18] moduleFunctions_h0 moduleFunctions_o0 ((t16, (t17, t18)), m1) some = moduleFunctions_B0 n t16 t17 t18 m1 := by kernel_rfl
theorem moduleFunctions_f0 (n : Nat) : LoopFact tab (moduleFunctions_tbl n) (moduleFunctions_loops n) moduleFunctions_an [] n 0 moduleFunctions_l0 (moduleFunctions_L0 n) := ⟨[3, 16, 17, 18], (fun s => moduleFunctions_B0 n s.1.1 s.1.2.1 s.1.2.2 s.2), by kernel_rfl, by kernel_rfl, fun s => rfl, fun s => moduleFunctions_r0 n s.1.1 s.1.2.1 s.1.2.2 s.2⟩
theorem moduleFunctions_run (n : Nat) (t0 : DG) (t0_1 : DH) (t0_2 : DI) (t0_3 : DC) (t0_4 : DD) : funDS (real _) tab (moduleFunctions_tbl n) (moduleFunctions_loops n) moduleFunctions_an Try.f42 0 moduleFunctions_a moduleFunctions_res (t0, (t0_1, (t0_2, (t0_3, t0_4)))) some = moduleFunctions n t0 t0_1 t0_2 t0_3 t0_4 := by kernel_rfl
noncomputable def moduleFunctions_E (n : Nat) : Entry := ⟨moduleFunctions_a, moduleFunctions_res, fun d => moduleFunctions n d.1 d.2.1 d.2.2.1 d.2.2.2.1 d.2.2.2.2⟩
theorem moduleFunctions_ok (n : Nat) : EOK Try.prog 42 (moduleFunctions_E n) :=
 EOK.ofS prog_names prog_mixed tab_ok (tbl := moduleFunctions_tbl n) (loops := moduleFunctions_loops n) (an := moduleFunctions_an) (old := []) (n := n) (c := moduleFunctions_c) (fn := Try.f42) (TblOK.cons (AllE.cons (moduleWriterCount_ok n) (AllE.cons (moduleWriterCountv1_ok n) AllE.nil)) (TblOK.cons (AllE.cons (moduleWriterTypes_ok n) AllE.nil) (TblOK.cons (AllE.cons (kindPut_ok n) AllE.nil) (TblOK.cons (AllE.cons (instPut_ok n) AllE.nil) TblOK.nil)))) (by kernel_rfl) (by kernel_rfl) (by kernel_rfl) (by kernel_rfl) (fun d => by kernel_rfl) (LT.cons (by kernel_rfl) (moduleFunctions_f2 n) (LT.cons (by kernel_rfl) (moduleFunctions_f0 n) LT.nil)) (fun a => moduleFunctions_run n a.1 a.2.1 a.2.2.1 a.2.2.2.1 a.2.2.2.2)
noncomputable def moduleImports_an : Ann := { live := [(0, [3, 14, 15, 16])], boxed := [(7, 8)] }
noncomputable def moduleImports_c : Code := (match Try.f43.body with | some c => c | none => .skip)
noncomputable def moduleImports_l0 : Code := (match assoc 0 (loopsIn moduleImports_c 0) with | some c => c | none => .skip)
noncomputable def moduleImports_a : StSh := ⟨.normal, [0], (.cons (.agg (.cons (.sl true false yA) (.cons (.sl true true yB) (.cons (.sl true true yC) (.cons (.sl true false (.int .u64)) (.cons (.sl true false .str) .nil)))))) .nil), .nil⟩
noncomputable def moduleImports_h0 : List StSh := [⟨.normal, [3, 14, 15, 16], (.cons (.ptr 0 0 0 0) (.cons (.sl true true yC) (.cons (.int .i64) (.cons (.int .i64) .nil)))), (.cons (.bcells 0 false 1 (.cons (.msw 1 0) .nil)) (.cons (.bts 0 false false false (.int .u8)) .nil))⟩]
noncomputable def moduleImports_o0 : List StSh := [⟨.exit 0, [3], (.cons (.ptr 0 0 0 0) .nil), (.cons (.bcells 0 false 1 (.cons (.msw 1 0) .nil)) (.cons (.bts 0 false false false (.int .u8)) .nil))⟩]
noncomputable def moduleImports_L0 (n : Nat) : LEntry := ⟨moduleImports_h0, moduleImports_o0, moduleImports_W0 n⟩
noncomputable def moduleImports_res : List StSh := [⟨.ret, [0], (.cons (.sl false false (.int .u8)) .nil), .nil⟩]
noncomputable def moduleImports_tbl (n : Nat) : FuncId → List Entry := fun f => bif Nat.beq f 96 then [moduleWriterCount_E n] else bif Nat.beq f 97 then [moduleWriterTypes_E n] else bif Nat.beq f 98 then [kindPut_E n] else []
noncomputable def moduleImports_loops (n : Nat) : Nat → Option LEntry := fun f => bif Nat.beq f 0 then some (moduleImports_L0 n) else none
theorem moduleImports_r0 (n : Nat) (t14 : DI) (t15 : Int) (t16 : Int) (m1 : DC) : roundK (real _) tab (moduleImports_tbl n) (moduleImports_loops n) moduleImports_an [] moduleImports_l0 0 [3, 14, 15, 16] moduleImports_h0 moduleImports_o0 ((t14, (t15, t16)), m1) some = moduleImports_B0 n t14 t15 t16 m1 := by kernel_rfl
theorem moduleImports_f0 (n : Nat) : LoopFact tab (moduleImports_tbl n) (moduleImports_loops n) moduleImports_an [] n 0 moduleImports_l0 (moduleImports_L0 n) := ⟨[3, 14, 15, 16], (fun s => moduleImports_B0 n s.1.1 s.1.2.1 s.1.2.2 s.2), by kernel_rfl, by kernel_rfl, fun s => rfl, fun s => moduleImports_r0 n s.1.1 s.1.2.1 s.1.2.2 s.2⟩
theorem moduleImports_run (n : Nat) (m_0 : DG) (m_0_1 : DH) (m_0_2 : DI) (m_0_3 : DC) (m_0_4 : DD) : funDS (real _) tab (moduleImports_tbl n) (moduleImports_loops n) moduleImports_an Try.f43 0 moduleImports_a moduleImports_res (m_0, (m_0_1, (m_0_2, (m_0_3, m_0_4)))) some = moduleImports n m_0 m_0_1 m_0_2 m_0_3 m_0_4 := by kernel_rfl
noncomputable def moduleImports_E (n : Nat) : Entry := ⟨moduleImports_a, moduleImports_res, fun d => moduleImports n d.1 d.2.1 d.2.2.1 d.2.2.2.1 d.2.2.2.2⟩
theorem moduleImports_ok (n : Nat) : EOK Try.prog 43 (moduleImports_E n) :=
 EOK.ofS prog_names prog_mixed tab_ok (tbl := moduleImports_tbl n) (loops := moduleImports_loops n) (an := moduleImports_an) (old := []) (n := n) (c := moduleImports_c) (fn := Try.f43) (TblOK.cons (AllE.cons (moduleWriterCount_ok n) AllE.nil) (TblOK.cons (AllE.cons (moduleWriterTypes_ok n) AllE.nil) (TblOK.cons (AllE.cons (kindPut_ok n) AllE.nil) TblOK.nil))) (by kernel_rfl) (by kernel_rfl) (by kernel_rfl) (by kernel_rfl) (fun d => by kernel_rfl) (LT.cons (by kernel_rfl) (moduleImports_f0 n) LT.nil) (fun a => moduleImports_run n a.1 a.2.1 a.2.2.1 a.2.2.2.1 a.2.2.2.2)
noncomputable def moduleNumbers_an : Ann := { live := [(0, [3, 14, 15, 16])], boxed := [(6, 7)] }
noncomputable def moduleNumbers_c : Code := (match Try.f44.body with | some c => c | none => .skip)
noncomputable def moduleNumbers_l0 : Code := (match assoc 0 (loopsIn moduleNumbers_c 0) with | some c => c | none => .skip)
noncomputable def moduleNumbers_a : StSh := ⟨.normal, [0], (.cons (.agg (.cons (.sl true false yA) (.cons (.sl true true yB) (.cons (.sl true true yC) (.cons (.sl true false (.int .u64)) (.cons (.sl true false .str) .nil)))))) .nil), .nil⟩
noncomputable def numFixed_an : Ann := { live := [(0, [0, 5, 9, 10])], boxed := [(1, 0), (5, 7)] }
noncomputable def numFixed_c : Code := (match Try.f100.body with | some c => c | none => .skip)
noncomputable def numFixed_l0 : Code := (match assoc 0 (loopsIn numFixed_c 0) with | some c => c | none => .skip)
noncomputable def numFixed_a : StSh := ⟨.normal, [0, 1], (.cons (.int .u64) (.cons (.int .i64) .nil)), .nil⟩
noncomputable def numFixed_h0 : List StSh := [⟨.normal, [0, 5, 9, 10], (.cons (.int .u64) (.cons (.msw 0 0) (.cons (.int .i64) (.cons (.int .i64) .nil)))), (.cons (.bts 0 false false false (.int .u8)) .nil)⟩]
noncomputable def numFixed_o0 : List StSh := [⟨.exit 0, [5], (.cons (.msw 0 0) .nil), (.cons (.bts 0 false false false (.int .u8)) .nil)⟩]
noncomputable def numFixed_L0 (n : Nat) : LEntry := ⟨numFixed_h0, numFixed_o0, numFixed_W0 n⟩
noncomputable def numFixed_res : List StSh := [⟨.ret, [0], (.cons (.sl false false (.int .u8)) .nil), .nil⟩]
noncomputable def numFixed_tbl (n : Nat) : FuncId → List Entry := fun f => []
noncomputable def numFixed_loops (n : Nat) : Nat → Option LEntry := fun f => bif Nat.beq f 0 then some (numFixed_L0 n) else none
theorem numFixed_r0 (n : Nat) (v_0 : Int) (t9 : Int) (t10 : Int) (m0 : DC) : roundK (real _) tab (numFixed_tbl n) (numFixed_loops n) numFixed_an [] numFixed_l0 0 [0, 5, 9, 10] numFixed_h0 numFixed_o0 ((v_0, (t9, t10)), m0) some = numFixed_B0 n v_0 t9 t10 m0 := by kernel_rfl
theorem numFixed_f0 (n : Nat) : LoopFact tab (numFixed_tbl n) (numFixed_loops n) numFixed_an [] n 0 numFixed_l0 (numFixed_L0 n) := ⟨[0, 5, 9, 10], (fun s => numFixed_B0 n s.1.1 s.1.2.1 s.1.2.2 s.2), by kernel_rfl, by kernel_rfl, fun s => rfl, fun s => numFixed_r0 n s.1.1 s.1.2.1 s.1.2.2 s.2⟩
theorem numFixed_run (n : Nat) (v_0 : Int) (n_1 : Int) : funDS (real _) tab (numFixed_tbl n) (numFixed_loops n) numFixed_an Try.f100 0 numFixed_a numFixed_res (v_0, n_1) some = numFixed n v_0 n_1 := by kernel_rfl
noncomputable def numFixed_E (n : Nat) : Entry := ⟨numFixed_a, numFixed_res, fun d => numFixed n d.1 d.2⟩
theorem numFixed_ok (n : Nat) : EOK Try.prog 100 (numFixed_E n) :=
 EOK.ofS prog_names prog_mixed tab_ok (tbl := numFixed_tbl n) (loops := numFixed_loops n) (an := numFixed_an) (old := []) (n := n) (c := numFixed_c) (fn := Try.f100) TblOK.nil (by kernel_rfl) (by kernel_rfl) (by kernel_rfl) (by kernel_rfl) (fun d => by kernel_rfl) (LT.cons (by kernel_rfl) (numFixed_f0 n) LT.nil) (fun a => numFixed_run n a.1 a.2)
noncomputable def moduleNumbers_h0 : List StSh := [⟨.normal, [3, 14, 15, 16], (.cons (.ptr 0 0 0 0) (.cons (.sl true false (.int .u64)) (.cons (.int .i64) (.cons (.int .i64) .nil)))), (.cons (.bcells 0 false 1 (.cons (.msw 1 0) .nil)) (.cons (.bts 0 false false false (.int .u8)) .nil))⟩]
noncomputable def moduleNumbers_o0 : List StSh := [⟨.exit 0, [3], (.cons (.ptr 0 0 0 0) .nil), (.cons (.bcells 0 false 1 (.cons (.msw 1 0) .nil)) (.cons (.bts 0 false false false (.int .u8)) .nil))⟩]
noncomputable def moduleNumbers_L0 (n : Nat) : LEntry := ⟨moduleNumbers_h0, moduleNumbers_o0, moduleNumbers_W0 n⟩
noncomputable def moduleNumbers_res : List StSh := [⟨.ret, [0], (.cons (.sl false false (.int .u8)) .nil), .nil⟩]
noncomputable def moduleNumbers_tbl (n : Nat) : FuncId → List Entry := fun f => bif Nat.beq f 96 then [moduleWriterCount_E n] else bif Nat.beq f 100 then [numFixed_E n] else []
noncomputable def moduleNumbers_loops (n : Nat) : Nat → Option LEntry := fun f => bif Nat.beq f 0 then some (moduleNumbers_L0 n) else none
theorem moduleNumbers_r0 (n : Nat) (t14 : DC) (t15 : Int) (t16 : Int) (m1 : DC) : roundK (real _) tab (moduleNumbers_tbl n) (moduleNumbers_loops n) moduleNumbers_an [] moduleNumbers_l0 0 [3, 14, 15, 16] moduleNumbers_h0 moduleNumbers_o0 ((t14, (t15, t16)), m1) some = moduleNumbers_B0 n t14 t15 t16 m1 := by kernel_rfl
theorem moduleNumbers_f0 (n : Nat) : LoopFact tab (moduleNumbers_tbl n) (moduleNumbers_loops n) moduleNumbers_an [] n 0 moduleNumbers_l0 (moduleNumbers_L0 n) := ⟨[3, 14, 15, 16], (fun s => moduleNumbers_B0 n s.1.1 s.1.2.1 s.1.2.2 s.2), by kernel_rfl, by kernel_rfl, fun s => rfl, fun s => moduleNumbers_r0 n s.1.1 s.1.2.1 s.1.2.2 s.2⟩
theorem moduleNumbers_run (n : Nat) (m_0 : DG) (m_0_1 : DH) (m_0_2 : DI) (m_0_3 : DC) (m_0_4 : DD) : funDS (real _) tab (moduleNumbers_tbl n) (moduleNumbers_loops n) moduleNumbers_an Try.f44 0 moduleNumbers_a moduleNumbers_res (m_0, (m_0_1, (m_0_2, (m_0_3, m_0_4)))) some = moduleNumbers n m_0 m_0_1 m_0_2 m_0_3 m_0_4 := by kernel_rfl
noncomputable def moduleNumbers_E (n : Nat) : Entry := ⟨moduleNumbers_a, moduleNumbers_res, fun d => moduleNumbers n d.1 d.2.1 d.2.2.1 d.2.2.2.1 d.2.2.2.2⟩
theorem moduleNumbers_ok (n : Nat) : EOK Try.prog 44 (moduleNumbers_E n) :=
 EOK.ofS prog_names prog_mixed tab_ok (tbl := moduleNumbers_tbl n) (loops := moduleNumbers_loops n) (an := moduleNumbers_an) (old := []) (n := n) (c := moduleNumbers_c) (fn := Try.f44) (TblOK.cons (AllE.cons (moduleWriterCount_ok n) AllE.nil) (TblOK.cons (AllE.cons (numFixed_ok n) AllE.nil) TblOK.nil)) (by kernel_rfl) (by kernel_rfl) (by kernel_rfl) (by kernel_rfl) (fun d => by kernel_rfl) (LT.cons (by kernel_rfl) (moduleNumbers_f0 n) LT.nil) (fun a => moduleNumbers_run n a.1 a.2.1 a.2.2.1 a.2.2.2.1 a.2.2.2.2)
noncomputable def moduleTexts_an : Ann := { live := [(0, [3, 14, 15, 16])], boxed := [(7, 6)] }
noncomputable def moduleTexts_c : Code := (match Try.f45.body with | some c => c | none => .skip)
noncomputable def moduleTexts_l0 : Code := (match assoc 0 (loopsIn moduleTexts_c 0) with | some c => c | none => .skip)
noncomputable def moduleTexts_a : StSh := ⟨.normal, [0], (.cons (.agg (.cons (.sl true false yA) (.cons (.sl true true yB) (.cons (.sl true true yC) (.cons (.sl true false (.int .u64)) (.cons (.sl true false .str) .nil)))))) .nil), .nil⟩
noncomputable def moduleTexts_h0 : List StSh := [⟨.normal, [3, 14, 15, 16], (.cons (.ptr 0 0 0 0) (.cons (.sl true false .str) (.cons (.int .i64) (.cons (.int .i64) .nil)))), (.cons (.bcells 0 false 1 (.cons (.msw 1 0) .nil)) (.cons (.bts 0 false false false (.int .u8)) .nil))⟩]
noncomputable def moduleTexts_o0 : List StSh := [⟨.exit 0, [3], (.cons (.ptr 0 0 0 0) .nil), (.cons (.bcells 0 false 1 (.cons (.msw 1 0) .nil)) (.cons (.bts 0 false false false (.int .u8)) .nil))⟩]
noncomputable def moduleTexts_L0 (n : Nat) : LEntry := ⟨moduleTexts_h0, moduleTexts_o0, moduleTexts_W0 n⟩
noncomputable def moduleTexts_res : List StSh := [⟨.ret, [0], (.cons (.sl false false (.int .u8)) .nil), .nil⟩]
noncomputable def moduleTexts_tbl (n : Nat) : FuncId → List Entry := fun f => bif Nat.beq f 96 then [moduleWriterCount_E n, moduleWriterCountv1_E n] else []
noncomputable def moduleTexts_loops (n : Nat) : Nat → Option LEntry := fun f => bif Nat.beq f 0 then some (moduleTexts_L0 n) else none
theorem moduleTexts_r0 (n : Nat) (t14 : DD) (t15 : Int) (t16 : Int) (m1 : DC) : roundK (real _) tab (moduleTexts_tbl n) (moduleTexts_loops n) moduleTexts_an [] moduleTexts_l0 0 [3, 14, 15, 16] moduleTexts_h0 moduleTexts_o0 ((t14, (t15, t16)), m1) some = moduleTexts_B0 n t14 t15 t16 m1 := by kernel_rfl
theorem moduleTexts_f0 (n : Nat) : LoopFact tab (moduleTexts_tbl n) (moduleTexts_loops n) moduleTexts_an [] n 0 moduleTexts_l0 (moduleTexts_L0 n) := ⟨[3, 14, 15, 16], (fun s => moduleTexts_B0 n s.1.1 s.1.2.1 s.1.2.2 s.2), by kernel_rfl, by kernel_rfl, fun s => rfl, fun s => moduleTexts_r0 n s.1.1 s.1.2.1 s.1.2.2 s.2⟩
theorem moduleTexts_run (n : Nat) (m_0 : DG) (m_0_1 : DH) (m_0_2 : DI) (m_0_3 : DC) (m_0_4 : DD) : funDS (real _) tab (moduleTexts_tbl n) (moduleTexts_loops n) moduleTexts_an Try.f45 0 moduleTexts_a moduleTexts_res (m_0, (m_0_1, (m_0_2, (m_0_3, m_0_4)))) some = moduleTexts n m_0 m_0_1 m_0_2 m_0_3 m_0_4 := by kernel_rfl
noncomputable def moduleTexts_E (n : Nat) : Entry := ⟨moduleTexts_a, moduleTexts_res, fun d => moduleTexts n d.1 d.2.1 d.2.2.1 d.2.2.2.1 d.2.2.2.2⟩
theorem moduleTexts_ok (n : Nat) : EOK Try.prog 45 (moduleTexts_E n) :=
 EOK.ofS prog_names prog_mixed tab_ok (tbl := moduleTexts_tbl n) (loops := moduleTexts_loops n) (an := moduleTexts_an) (old := []) (n := n) (c := moduleTexts_c) (fn := Try.f45) (TblOK.cons (AllE.cons (moduleWriterCount_ok n) (AllE.cons (moduleWriterCountv1_ok n) AllE.nil)) TblOK.nil) (by kernel_rfl) (by kernel_rfl) (by kernel_rfl) (by kernel_rfl) (fun d => by kernel_rfl) (LT.cons (by kernel_rfl) (moduleTexts_f0 n) LT.nil) (fun a => moduleTexts_run n a.1 a.2.1 a.2.2.1 a.2.2.2.1 a.2.2.2.2)
noncomputable def packJoin_an : Ann := { live := [(0, [3, 10, 11, 12])], boxed := [(5, 5), (6, 2)], raw := [(1, 3)] }
noncomputable def packJoin_c : Code := (match Try.f40.body with | some c => c | none => .skip)
noncomputable def packJoin_l0 : Code := (match assoc 0 (loopsIn packJoin_c 0) with | some c => c | none => .skip)
noncomputable def packJoin_a : StSh := ⟨.normal, [0], (.cons (.sl true false yF) .nil), .nil⟩
noncomputable def packJoin_h0 : List StSh := [⟨.normal, [3, 10, 11, 12], (.cons (.msw 0 0) (.cons (.sl true false yF) (.cons (.int .i64) (.cons (.int .i64) .nil)))), (.cons (.bts 0 false false false (.int .u8)) .nil)⟩]
noncomputable def packJoin_o0 : List StSh := [⟨.exit 0, [3], (.cons (.msw 0 0) .nil), (.cons (.bts 0 false false false (.int .u8)) .nil)⟩]
noncomputable def packJoin_L0 (n : Nat) : LEntry := ⟨packJoin_h0, packJoin_o0, packJoin_W0 n⟩
noncomputable def packJoin_res : List StSh := [⟨.ret, [0], (.cons (.sl false false (.int .u8)) .nil), .nil⟩]
noncomputable def packJoin_tbl (n : Nat) : FuncId → List Entry := fun f => bif Nat.beq f 95 then [numVar_E n] else []
noncomputable def packJoin_loops (n : Nat) : Nat → Option LEntry := fun f => bif Nat.beq f 0 then some (packJoin_L0 n) else none
theorem packJoin_r0 (n : Nat) (t10 : DJ) (t11 : Int) (t12 : Int) (m0 : DC) : roundK (real _) tab (packJoin_tbl n) (packJoin_loops n) packJoin_an [] packJoin_l0 0 [3, 10, 11, 12] packJoin_h0 packJoin_o0 ((t10, (t11, t12)), m0) some = packJoin_B0 n t10 t11 t12 m0 := by kernel_rfl
theorem packJoin_f0 (n : Nat) : LoopFact tab (packJoin_tbl n) (packJoin_loops n) packJoin_an [] n 0 packJoin_l0 (packJoin_L0 n) := ⟨[3, 10, 11, 12], (fun s => packJoin_B0 n s.1.1 s.1.2.1 s.1.2.2 s.2), by kernel_rfl, by kernel_rfl, fun s => rfl, fun s => packJoin_r0 n s.1.1 s.1.2.1 s.1.2.2 s.2⟩
theorem packJoin_run (n : Nat) (parts_0 : DJ) : funDS (real _) tab (packJoin_tbl n) (packJoin_loops n) packJoin_an Try.f40 0 packJoin_a packJoin_res parts_0 some = packJoin n parts_0 := by kernel_rfl
noncomputable def packJoin_E (n : Nat) : Entry := ⟨packJoin_a, packJoin_res, fun d => packJoin n d⟩
theorem packJoin_ok (n : Nat) : EOK Try.prog 40 (packJoin_E n) :=
 EOK.ofS prog_names prog_mixed tab_ok (tbl := packJoin_tbl n) (loops := packJoin_loops n) (an := packJoin_an) (old := []) (n := n) (c := packJoin_c) (fn := Try.f40) (TblOK.cons (AllE.cons (numVar_ok n) AllE.nil) TblOK.nil) (by kernel_rfl) (by kernel_rfl) (by kernel_rfl) (by kernel_rfl) (fun d => by kernel_rfl) (LT.cons (by kernel_rfl) (packJoin_f0 n) LT.nil) (fun a => packJoin_run n a)
noncomputable def moduleEncode_res : List StSh := [⟨.ret, [0], (.cons (.tup (.cons (.sl false false (.int .u8)) (.cons (.int .i64) .nil))) .nil), .nil⟩]
noncomputable def moduleEncode_tbl (n : Nat) : FuncId → List Entry := fun f => bif Nat.beq f 39 then [moduleFits_E n] else bif Nat.beq f 41 then [moduleRecords_E n] else bif Nat.beq f 42 then [moduleFunctions_E n] else bif Nat.beq f 43 then [moduleImports_E n] else bif Nat.beq f 44 then [moduleNumbers_E n] else bif Nat.beq f 45 then [moduleTexts_E n] else bif Nat.beq f 40 then [packJoin_E n] else []
noncomputable def moduleEncode_loops (n : Nat) : Nat → Option LEntry := fun f => none
theorem moduleEncode_run (n : Nat) (m_0 : DG) (m_0_1 : DH) (m_0_2 : DI) (m_0_3 : DC) (m_0_4 : DD) : funDS (real _) tab (moduleEncode_tbl n) (moduleEncode_loops n) moduleEncode_an Try.f20 0 moduleEncode_a moduleEncode_res (m_0, (m_0_1, (m_0_2, (m_0_3, m_0_4)))) some = moduleEncode n m_0 m_0_1 m_0_2 m_0_3 m_0_4 := by kernel_rfl
noncomputable def moduleEncode_E (n : Nat) : Entry := ⟨moduleEncode_a, moduleEncode_res, fun d => moduleEncode n d.1 d.2.1 d.2.2.1 d.2.2.2.1 d.2.2.2.2⟩
theorem moduleEncode_ok (n : Nat) : EOK Try.prog 20 (moduleEncode_E n) :=
 EOK.ofS prog_names prog_mixed tab_ok (tbl := moduleEncode_tbl n) (loops := moduleEncode_loops n) (an := moduleEncode_an) (old := []) (n := n) (c := moduleEncode_c) (fn := Try.f20) (TblOK.cons (AllE.cons (moduleFits_ok n) AllE.nil) (TblOK.cons (AllE.cons (moduleRecords_ok n) AllE.nil) (TblOK.cons (AllE.cons (moduleFunctions_ok n) AllE.nil) (TblOK.cons (AllE.cons (moduleImports_ok n) AllE.nil) (TblOK.cons (AllE.cons (moduleNumbers_ok n) AllE.nil) (TblOK.cons (AllE.cons (moduleTexts_ok n) AllE.nil) (TblOK.cons (AllE.cons (packJoin_ok n) AllE.nil) TblOK.nil))))))) (by kernel_rfl) (by kernel_rfl) (by kernel_rfl) (by kernel_rfl) (fun d => by kernel_rfl) LT.nil (fun a => moduleEncode_run n a.1 a.2.1 a.2.2.1 a.2.2.2.1 a.2.2.2.2)
noncomputable def moduleDecode_an : Ann := {}
noncomputable def moduleDecode_c : Code := (match Try.f23.body with | some c => c | none => .skip)
noncomputable def moduleDecode_a : StSh := ⟨.normal, [0], (.cons (.sl true false (.int .u8)) .nil), .nil⟩
noncomputable def packSplit_an : Ann := { live := [(0, [6, 9, 22, 23])], boxed := [(5, 0), (11, 5)] }
noncomputable def packSplit_c : Code := (match Try.f53.body with | some c => c | none => .skip)
noncomputable def packSplit_l0 : Code := (match assoc 0 (loopsIn packSplit_c 0) with | some c => c | none => .skip)
noncomputable def packSplit_a : StSh := ⟨.normal, [0, 1], (.cons (.sl true false (.int .u8)) (.cons (.int .i64) .nil)), .nil⟩
noncomputable def numNewReader_an : Ann := {}
noncomputable def numNewReader_c : Code := (match Try.f55.body with | some c => c | none => .skip)
noncomputable def numNewReader_a : StSh := ⟨.normal, [0], (.cons (.sl true false (.int .u8)) .nil), .nil⟩
noncomputable def numNewReader_res : List StSh := [⟨.ret, [0], (.cons (.ptr 0 0 0 0) .nil), (.cons (.bcells 0 false 1 (.cons (.sl false false (.int .u8)) (.cons .bool .nil))) .nil)⟩]
noncomputable def numNewReader_tbl (n : Nat) : FuncId → List Entry := fun f => []
noncomputable def numNewReader_loops (n : Nat) : Nat → Option LEntry := fun f => none
theorem numNewReader_run (n : Nat) (b_0 : DC) : funDS (real _) tab (numNewReader_tbl n) (numNewReader_loops n) numNewReader_an Try.f55 0 numNewReader_a numNewReader_res b_0 some = numNewReader n b_0 := by kernel_rfl
noncomputable def numNewReader_E (n : Nat) : Entry := ⟨numNewReader_a, numNewReader_res, fun d => numNewReader n d⟩
theorem numNewReader_ok (n : Nat) : EOK Try.prog 55 (numNewReader_E n) :=
 EOK.ofS prog_names prog_mixed tab_ok (tbl := numNewReader_tbl n) (loops := numNewReader_loops n) (an := numNewReader_an) (old := []) (n := n) (c := numNewReader_c) (fn := Try.f55) TblOK.nil (by kernel_rfl) (by kernel_rfl) (by kernel_rfl) (by kernel_rfl) (fun d => by kernel_rfl) LT.nil (fun a => numNewReader_run n a)
noncomputable def packCount_an : Ann := {}
noncomputable def packCount_c : Code := (match Try.f102.body with | some c => c | none => .skip)
noncomputable def packCount_a : StSh := ⟨.normal, [0, 1], (.cons (.ptr 0 0 0 0) (.cons (.int .i64) .nil)), (.cons (.bcells 0 false 1 (.cons (.sl false false (.int .u8)) (.cons .bool .nil))) .nil)⟩
noncomputable def numReaderVar_an : Ann := { live := [(0, [0, 3, 4])] }
noncomputable def numReaderVar_c : Code := (match Try.f56.body with | some c => c | none => .skip)
noncomputable def numReaderVar_l0 : Code := (match assoc 0 (loopsIn numReaderVar_c 0) with | some c => c | none => .skip)
noncomputable def numReaderVar_a : StSh := ⟨.normal, [0], (.cons (.ptr 0 0 0 0) .nil), (.cons (.bcells 0 false 1 (.cons (.sl false false (.int .u8)) (.cons .bool .nil))) .nil)⟩
noncomputable def numReaderTake_an : Ann := {}
noncomputable def numReaderTake_c : Code := (match Try.f70.body with | some c => c | none => .skip)
noncomputable def numReaderTake_a : StSh := ⟨.normal, [0, 1], (.cons (.ptr 0 0 0 0) (.cons (.int .i64) .nil)), (.cons (.bcells 0 false 1 (.cons (.sl false false (.int .u8)) (.cons .bool .nil))) .nil)⟩
noncomputable def numReaderBad_an : Ann := {}
noncomputable def numReaderBad_c : Code := (match Try.f104.body with | some c => c | none => .skip)
noncomputable def numReaderBad_a : StSh := ⟨.normal, [0], (.cons (.ptr 0 0 0 0) .nil), (.cons (.bcells 0 false 1 (.cons (.sl false false (.int .u8)) (.cons .bool .nil))) .nil)⟩
noncomputable def numReaderBad_res : List StSh := [⟨.ret, [0], (.cons .bool .nil), (.cons (.bcells 0 false 1 (.cons (.sl false false (.int .u8)) (.cons .bool .nil))) .nil)⟩]
noncomputable def numReaderBad_tbl (n : Nat) : FuncId → List Entry := fun f => []
noncomputable def numReaderBad_loops (n : Nat) : Nat → Option LEntry := fun f => none
theorem numReaderBad_run (n : Nat) (m0 : DC) (m0_1 : Bool) : funDS (real _) tab (numReaderBad_tbl n) (numReaderBad_loops n) numReaderBad_an Try.f104 1 numReaderBad_a numReaderBad_res (m0, m0_1) some = numReaderBad n m0 m0_1 := by kernel_rfl
noncomputable def numReaderBad_E (n : Nat) : Entry := ⟨numReaderBad_a, numReaderBad_res, fun d => numReaderBad n d.1 d.2⟩
theorem numReaderBad_ok (n : Nat) : EOK Try.prog 104 (numReaderBad_E n) :=
 EOK.ofS prog_names prog_mixed tab_ok (tbl := numReaderBad_tbl n) (loops := numReaderBad_loops n) (an := numReaderBad_an) (old := [some true]) (n := n) (c := numReaderBad_c) (fn := Try.f104) TblOK.nil (by kernel_rfl) (by kernel_rfl) (by kernel_rfl) (by kernel_rfl) (fun d => by kernel_rfl) LT.nil (fun a => numReaderBad_run n a.1 a.2)
noncomputable def numReaderFail_an : Ann := {}
noncomputable def numReaderFail_c : Code := (match Try.f105.body with | some c => c | none => .skip)
noncomputable def numReaderFail_a : StSh := ⟨.normal, [0], (.cons (.ptr 0 0 0 0) .nil), (.cons (.bcells 0 false 1 (.cons (.sl false false (.int .u8)) (.cons .bool .nil))) .nil)⟩
noncomputable def numReaderFail_res : List StSh := [⟨.ret, [0], (.cons (.tup .nil) .nil), (.cons (.bcells 0 false 1 (.cons (.sl false false (.int .u8)) (.cons .bool .nil))) .nil)⟩]
noncomputable def numReaderFail_tbl (n : Nat) : FuncId → List Entry := fun f => []
noncomputable def numReaderFail_loops (n : Nat) : Nat → Option LEntry := fun f => none
theorem numReaderFail_run (n : Nat) (m0 : DC) (m0_1 : Bool) : funDS (real _) tab (numReaderFail_tbl n) (numReaderFail_loops n) numReaderFail_an Try.f105 1 numReaderFail_a numReaderFail_res (m0, m0_1) some = numReaderFail n m0 m0_1 := by kernel_rfl
noncomputable def numReaderFail_E (n : Nat) : Entry := ⟨numReaderFail_a, numReaderFail_res, fun d => numReaderFail n d.1 d.2⟩
theorem numReaderFail_ok (n : Nat) : EOK Try.prog 105 (numReaderFail_E n) :=
 EOK.ofS prog_names prog_mixed tab_ok (tbl := numReaderFail_tbl n) (loops := numReaderFail_loops n) (an := numReaderFail_an) (old := [some true]) (n := n) (c := numReaderFail_c) (fn := Try.f105) TblOK.nil (by kernel_rfl) (by kernel_rfl) (by kernel_rfl) (by kernel_rfl) (fun d => by kernel_rfl) LT.nil (fun a => numReaderFail_run n a.1 a.2)
noncomputable def numReaderTake_res : List StSh := [⟨.ret, [0], (.cons (.sl false false (.int .u8)) .nil), (.cons (.bcells 0 false 1 (.cons (.sl false false (.int .u8)) (.cons .bool .nil))) .nil)⟩]
noncomputable def numReaderTake_tbl (n : Nat) : FuncId → List Entry := fun f => bif Nat.beq f 104 then [numReaderBad_E n] else bif Nat.beq f 105 then [numReaderFail_E n] else []
noncomputable def numReaderTake_loops (n : Nat) : Nat → Option LEntry := fun f => none
theorem numReaderTake_run (n : Nat) (n_1 : Int) (m0 : DC) (m0_1 : Bool) : funDS (real _) tab (numReaderTake_tbl n) (numReaderTake_loops n) numReaderTake_an Try.f70 1 numReaderTake_a numReaderTake_res (n_1, (m0, m0_1)) some = numReaderTake n n_1 m0 m0_1 := by kernel_rfl
noncomputable def numReaderTake_E (n : Nat) : Entry := ⟨numReaderTake_a, numReaderTake_res, fun d => numReaderTake n d.1 d.2.1 d.2.2⟩
theorem numReaderTake_ok (n : Nat) : EOK Try.prog 70 (numReaderTake_E n) :=
 EOK.ofS prog_names prog_mixed tab_ok (tbl := numReaderTake_tbl n) (loops := numReaderTake_loops n) (an := numReaderTake_an) (old := [some true]) (n := n) (c := numReaderTake_c) (fn := Try.f70) (TblOK.cons (AllE.cons (numReaderBad_ok n) AllE.nil) (TblOK.cons (AllE.cons (numReaderFail_ok n) AllE.nil) TblOK.nil)) (by kernel_rfl) (by kernel_rfl) (by kernel_rfl) (by kernel_rfl) (fun d => by kernel_rfl) LT.nil (fun a => numReaderTake_run n a.1 a.2.1 a.2.2)
noncomputable def numReaderVar_h0 : List StSh := [⟨.normal, [0, 3, 4], (.cons (.ptr 0 0 0 0) (.cons (.int .u64) (.cons (.int .i64) .nil))), (.cons (.bcells 0 false 1 (.cons (.sl false false (.int .u8)) (.cons .bool .nil))) .nil)⟩]
noncomputable def numReaderVar_o0 : List StSh := [⟨.ret, [2], (.cons (.int .u64) .nil), (.cons (.bcells 0 false 1 (.cons (.sl false false (.int .u8)) (.cons .bool .nil))) .nil)⟩]
noncomputable def numReaderVar_L0 (n : Nat) : LEntry := ⟨numReaderVar_h0, numReaderVar_o0, numReaderVar_W0 n⟩
noncomputable def numReaderVar_res : List StSh := [⟨.ret, [0], (.cons (.int .u64) .nil), (.cons (.bcells 0 false 1 (.cons (.sl false false (.int .u8)) (.cons .bool .nil))) .nil)⟩]
noncomputable def numReaderVar_tbl (n : Nat) : FuncId → List Entry := fun f => bif Nat.beq f 70 then [numReaderTake_E n] else bif Nat.beq f 105 then [numReaderFail_E n] else []
noncomputable def numReaderVar_loops (n : Nat) : Nat → Option LEntry := fun f => bif Nat.beq f 0 then some (numReaderVar_L0 n) else none
theorem numReaderVar_r0 (n : Nat) (v_3 : Int) (k_4 : Int) (m0 : DC) (m0_1 : Bool) : roundK (real _) tab (numReaderVar_tbl n) (numReaderVar_loops n) numReaderVar_an [some true] numReaderVar_l0 0 [0, 3, 4] numReaderVar_h0 numReaderVar_o0 ((v_3, k_4), (m0, m0_1)) some = numReaderVar_B0 n v_3 k_4 m0 m0_1 := by kernel_rfl
theorem numReaderVar_f0 (n : Nat) : LoopFact tab (numReaderVar_tbl n) (numReaderVar_loops n) numReaderVar_an [some true] n 0 numReaderVar_l0 (numReaderVar_L0 n) := ⟨[0, 3, 4], (fun s => numReaderVar_B0 n s.1.1 s.1.2 s.2.1 s.2.2), by kernel_rfl, by kernel_rfl, fun s => rfl, fun s => numReaderVar_r0 n s.1.1 s.1.2 s.2.1 s.2.2⟩
theorem numReaderVar_run (n : Nat) (m0 : DC) (m0_1 : Bool) : funDS (real _) tab (numReaderVar_tbl n) (numReaderVar_loops n) numReaderVar_an Try.f56 1 numReaderVar_a numReaderVar_res (m0, m0_1) some = numReaderVar n m0 m0_1 := by kernel_rfl
noncomputable def numReaderVar_E (n : Nat) : Entry := ⟨numReaderVar_a, numReaderVar_res, fun d => numReaderVar n d.1 d.2⟩
theorem numReaderVar_ok (n : Nat) : EOK Try.prog 56 (numReaderVar_E n) :=
 EOK.ofS prog_names prog_mixed tab_ok (tbl := numReaderVar_tbl n) (loops := numReaderVar_loops n) (an := numReaderVar_an) (old := [some true]) (n := n) (c := numReaderVar_c) (fn := Try.f56) (TblOK.cons (AllE.cons (numReaderTake_ok n) AllE.nil) (TblOK.cons (AllE.cons (numReaderFail_ok n) AllE.nil) TblOK.nil)) (by kernel_rfl) (by kernel_rfl) (by kernel_rfl) (by kernel_rfl) (fun d => by kernel_rfl) (LT.cons (by kernel_rfl) (numReaderVar_f0 n) LT.nil) (fun a => numReaderVar_run n a.1 a.2)
noncomputable def packCount_res : List StSh := [⟨.ret, [0], (.cons (.tup (.cons (.int .i64) (.cons .bool .nil))) .nil), (.cons (.bcells 0 false 1 (.cons (.sl false false (.int .u8)) (.cons .bool .nil))) .nil)⟩]
noncomputable def packCount_tbl (n : Nat) : FuncId → List Entry := fun f => bif Nat.beq f 56 then [numReaderVar_E n] else bif Nat.beq f 104 then [numReaderBad_E n] else []
noncomputable def packCount_loops (n : Nat) : Nat → Option LEntry := fun f => none
theorem packCount_run (n : Nat) (most_1 : Int) (m0 : DC) (m0_1 : Bool) : funDS (real _) tab (packCount_tbl n) (packCount_loops n) packCount_an Try.f102 1 packCount_a packCount_res (most_1, (m0, m0_1)) some = packCount n most_1 m0 m0_1 := by kernel_rfl
noncomputable def packCount_E (n : Nat) : Entry := ⟨packCount_a, packCount_res, fun d => packCount n d.1 d.2.1 d.2.2⟩
theorem packCount_ok (n : Nat) : EOK Try.prog 102 (packCount_E n) :=
 EOK.ofS prog_names prog_mixed tab_ok (tbl := packCount_tbl n) (loops := packCount_loops n) (an := packCount_an) (old := [some true]) (n := n) (c := packCount_c) (fn := Try.f102) (TblOK.cons (AllE.cons (numReaderVar_ok n) AllE.nil) (TblOK.cons (AllE.cons (numReaderBad_ok n) AllE.nil) TblOK.nil)) (by kernel_rfl) (by kernel_rfl) (by kernel_rfl) (by kernel_rfl) (fun d => by kernel_rfl) LT.nil (fun a => packCount_run n a.1 a.2.1 a.2.2)
noncomputable def numReaderLeft_an : Ann := {}
noncomputable def numReaderLeft_c : Code := (match Try.f103.body with | some c => c | none => .skip)
noncomputable def numReaderLeft_a : StSh := ⟨.normal, [0], (.cons (.ptr 0 0 0 0) .nil), (.cons (.bcells 0 false 1 (.cons (.sl false false (.int .u8)) (.cons .bool .nil))) .nil)⟩
noncomputable def numReaderLeft_res : List StSh := [⟨.ret, [0], (.cons (.int .i64) .nil), (.cons (.bcells 0 false 1 (.cons (.sl false false (.int .u8)) (.cons .bool .nil))) .nil)⟩]
noncomputable def numReaderLeft_tbl (n : Nat) : FuncId → List Entry := fun f => bif Nat.beq f 104 then [numReaderBad_E n] else []
noncomputable def numReaderLeft_loops (n : Nat) : Nat → Option LEntry := fun f => none
theorem numReaderLeft_run (n : Nat) (m0 : DC) (m0_1 : Bool) : funDS (real _) tab (numReaderLeft_tbl n) (numReaderLeft_loops n) numReaderLeft_an Try.f103 1 numReaderLeft_a numReaderLeft_res (m0, m0_1) some = numReaderLeft n m0 m0_1 := by kernel_rfl
noncomputable def numReaderLeft_E (n : Nat) : Entry := ⟨numReaderLeft_a, numReaderLeft_res, fun d => numReaderLeft n d.1 d.2⟩
theorem numReaderLeft_ok (n : Nat) : EOK Try.prog 103 (numReaderLeft_E n) :=
 EOK.ofS prog_names prog_mixed tab_ok (tbl := numReaderLeft_tbl n) (loops := numReaderLeft_loops n) (an := numReaderLeft_an) (old := [some true]) (n := n) (c := numReaderLeft_c) (fn := Try.f103) (TblOK.cons (AllE.cons (numReaderBad_ok n) AllE.nil) TblOK.nil) (by kernel_rfl) (by kernel_rfl) (by kernel_rfl) (by kernel_rfl) (fun d => by kernel_rfl) LT.nil (fun a => numReaderLeft_run n a.1 a.2)
noncomputable def packSplit_h0 : List StSh := [⟨.normal, [6, 9, 22, 23], (.cons (.ptr 0 0 0 0) (.cons (.msw 1 0) (.cons (.int .i64) (.cons (.int .i64) .nil)))), (.cons (.bcells 0 false 1 (.cons (.sl false false (.int .u8)) (.cons .bool .nil))) (.cons (.bts 0 false false false yF) .nil))⟩]
noncomputable def packSplit_o0 : List StSh := [⟨.ret, [4, 5], (.cons (.sl false false yF) (.cons (.int .i64) .nil)), (.cons (.bcells 0 false 1 (.cons (.sl false false (.int .u8)) (.cons .bool .nil))) (.cons (.bts 0 false false false yF) .nil))⟩, ⟨.ret, [4, 5], (.cons (.sl false false yF) (.cons (.int .i64) .nil)), (.cons (.bcells 0 false 1 (.cons (.sl false false (.int .u8)) (.cons .bool .nil))) (.cons (.bts 1 false false false yF) .nil))⟩, ⟨.exit 0, [6, 9], (.cons (.ptr 0 0 0 0) (.cons (.msw 1 0) .nil)), (.cons (.bcells 0 false 1 (.cons (.sl false false (.int .u8)) (.cons .bool .nil))) (.cons (.bts 0 false false false yF) .nil))⟩]
noncomputable def packSplit_L0 (n : Nat) : LEntry := ⟨packSplit_h0, packSplit_o0, packSplit_W0 n⟩
noncomputable def packSplit_res : List StSh := [⟨.ret, [0], (.cons (.tup (.cons (.sl false false yF) (.cons (.int .i64) .nil))) .nil), .nil⟩]
noncomputable def packSplit_tbl (n : Nat) : FuncId → List Entry := fun f => bif Nat.beq f 55 then [numNewReader_E n] else bif Nat.beq f 102 then [packCount_E n] else bif Nat.beq f 103 then [numReaderLeft_E n] else bif Nat.beq f 70 then [numReaderTake_E n] else bif Nat.beq f 104 then [numReaderBad_E n] else []
noncomputable def packSplit_loops (n : Nat) : Nat → Option LEntry := fun f => bif Nat.beq f 0 then some (packSplit_L0 n) else none
theorem packSplit_r0 (n : Nat) (t22 : Int) (t23 : Int) (m0 : DC) (m0_1 : Bool) (m1 : DJ) : roundK (real _) tab (packSplit_tbl n) (packSplit_loops n) packSplit_an [] packSplit_l0 0 [6, 9, 22, 23] packSplit_h0 packSplit_o0 ((t22, t23), ((m0, m0_1), m1)) some = packSplit_B0 n t22 t23 m0 m0_1 m1 := by kernel_rfl
theorem packSplit_f0 (n : Nat) : LoopFact tab (packSplit_tbl n) (packSplit_loops n) packSplit_an [] n 0 packSplit_l0 (packSplit_L0 n) := ⟨[6, 9, 22, 23], (fun s => packSplit_B0 n s.1.1 s.1.2 s.2.1.1 s.2.1.2 s.2.2), by kernel_rfl, by kernel_rfl, fun s => rfl, fun s => packSplit_r0 n s.1.1 s.1.2 s.2.1.1 s.2.1.2 s.2.2⟩
theorem packSplit_run (n : Nat) (b_0 : DC) (most_1 : Int) : funDS (real _) tab (packSplit_tbl n) (packSplit_loops n) packSplit_an Try.f53 0 packSplit_a packSplit_res (b_0, most_1) some = packSplit n b_0 most_1 := by kernel_rfl
noncomputable def packSplit_E (n : Nat) : Entry := ⟨packSplit_a, packSplit_res, fun d => packSplit n d.1 d.2⟩
theorem packSplit_ok (n : Nat) : EOK Try.prog 53 (packSplit_E n) :=
 EOK.ofS prog_names prog_mixed tab_ok (tbl := packSplit_tbl n) (loops := packSplit_loops n) (an := packSplit_an) (old := []) (n := n) (c := packSplit_c) (fn := Try.f53) (TblOK.cons (AllE.cons (numNewReader_ok n) AllE.nil) (TblOK.cons (AllE.cons (packCount_ok n) AllE.nil) (TblOK.cons (AllE.cons (numReaderLeft_ok n) AllE.nil) (TblOK.cons (AllE.cons (numReaderTake_ok n) AllE.nil) (TblOK.cons (AllE.cons (numReaderBad_ok n) AllE.nil) TblOK.nil))))) (by kernel_rfl) (by kernel_rfl) (by kernel_rfl) (by kernel_rfl) (fun d => by kernel_rfl) (LT.cons (by kernel_rfl) (packSplit_f0 n) LT.nil) (fun a => packSplit_run n a.1 a.2)
noncomputable def moduleDecode1_an : Ann := {}
noncomputable def moduleDecode1_c : Code := (match Try.f54.body with | some c => c | none => .skip)
noncomputable def moduleDecode1_a : StSh := ⟨.normal, [0, 1, 2], (.cons (.int .i64) (.cons (.ptr 0 0 0 0) (.cons (.ptr 1 0 0 0) .nil))), (.cons (.bcells 0 false 1 (.cons (.sl false false yF) .nil)) (.cons (.bcells 0 false 1 (.cons .nilS (.cons .nilS (.cons .nilS (.cons .nilS (.cons .nilS .nil)))))) .nil))⟩
noncomputable def moduleDecode1_res : List StSh := [⟨.ret, [0], (.cons (.ptr 2 0 0 0) .nil), (.cons (.bcells 0 false 1 (.cons (.sl false false yF) .nil)) (.cons (.bcells 0 false 1 (.cons .nilS (.cons .nilS (.cons .nilS (.cons .nilS (.cons .nilS .nil)))))) (.cons (.bcells 0 false 1 (.cons (.ptr 3 0 0 0) (.cons (.int .i64) (.cons .bool .nil)))) (.cons (.bcells 0 false 1 (.cons (.sl false false (.int .u8)) (.cons .bool .nil))) .nil))))⟩]
noncomputable def moduleDecode1_tbl (n : Nat) : FuncId → List Entry := fun f => bif Nat.beq f 55 then [numNewReader_E n] else []
noncomputable def moduleDecode1_loops (n : Nat) : Nat → Option LEntry := fun f => none
theorem moduleDecode1_run (n : Nat) (k_0 : Int) (m0 : DJ) : funDS (real _) tab (moduleDecode1_tbl n) (moduleDecode1_loops n) moduleDecode1_an Try.f54 2 moduleDecode1_a moduleDecode1_res (k_0, m0) some = moduleDecode1 n k_0 m0 := by kernel_rfl
noncomputable def moduleDecode1_E (n : Nat) : Entry := ⟨moduleDecode1_a, moduleDecode1_res, fun d => moduleDecode1 n d.1 d.2⟩
theorem moduleDecode1_ok (n : Nat) : EOK Try.prog 54 (moduleDecode1_E n) :=
 EOK.ofS prog_names prog_mixed tab_ok (tbl := moduleDecode1_tbl n) (loops := moduleDecode1_loops n) (an := moduleDecode1_an) (old := [some true, some true]) (n := n) (c := moduleDecode1_c) (fn := Try.f54) (TblOK.cons (AllE.cons (numNewReader_ok n) AllE.nil) TblOK.nil) (by kernel_rfl) (by kernel_rfl) (by kernel_rfl) (by kernel_rfl) (fun d => by kernel_rfl) LT.nil (fun a => moduleDecode1_run n a.1 a.2)
noncomputable def moduleListApiType_an : Ann := { live := [(0, [0, 2, 7, 10, 11])], boxed := [(1, 0), (5, 4)] }
noncomputable def moduleListApiType_c : Code := (match Try.f57.body with | some c => c | none => .skip)
noncomputable def moduleListApiType_l0 : Code := (match assoc 0 (loopsIn moduleListApiType_c 0) with | some c => c | none => .skip)
noncomputable def moduleListApiType_a : StSh := ⟨.normal, [0, 1, 2], (.cons (.ptr 0 0 0 0) (.cons (.int .i64) (.cons (.fn 58 .nil (.cons (.ptr 1 0 0 0) .nil)) .nil))), (.cons (.bcells 0 false 1 (.cons (.ptr 2 0 0 0) (.cons (.int .i64) (.cons .bool .nil)))) (.cons (.bcells 0 false 1 (.cons (.ptr 0 0 0 0) .nil)) (.cons (.bcells 0 false 1 (.cons (.sl false false (.int .u8)) (.cons .bool .nil))) .nil)))⟩
noncomputable def moduleReaderCount_an : Ann := {}
noncomputable def moduleReaderCount_c : Code := (match Try.f71.body with | some c => c | none => .skip)
noncomputable def moduleReaderCount_a : StSh := ⟨.normal, [0, 1], (.cons (.ptr 0 0 0 0) (.cons (.int .i64) .nil)), (.cons (.bcells 0 false 1 (.cons (.ptr 1 0 0 0) (.cons (.int .i64) (.cons .bool .nil)))) (.cons (.bcells 0 false 1 (.cons (.sl false false (.int .u8)) (.cons .bool .nil))) .nil))⟩
noncomputable def moduleReaderCount_res : List StSh := [⟨.ret, [0], (.cons (.int .i64) .nil), (.cons (.bcells 0 false 1 (.cons (.ptr 1 0 0 0) (.cons (.int .i64) (.cons .bool .nil)))) (.cons (.bcells 0 false 1 (.cons (.sl false false (.int .u8)) (.cons .bool .nil))) .nil))⟩]
noncomputable def moduleReaderCount_tbl (n : Nat) : FuncId → List Entry := fun f => bif Nat.beq f 56 then [numReaderVar_E n] else bif Nat.beq f 104 then [numReaderBad_E n] else []
noncomputable def moduleReaderCount_loops (n : Nat) : Nat → Option LEntry := fun f => none
theorem moduleReaderCount_run (n : Nat) (most_1 : Int) (m0 : Int) (m0_1 : Bool) (m1 : DC) (m1_1 : Bool) : funDS (real _) tab (moduleReaderCount_tbl n) (moduleReaderCount_loops n) moduleReaderCount_an Try.f71 2 moduleReaderCount_a moduleReaderCount_res (most_1, ((m0, m0_1), (m1, m1_1))) some = moduleReaderCount n most_1 m0 m0_1 m1 m1_1 := by kernel_rfl
noncomputable def moduleReaderCount_E (n : Nat) : Entry := ⟨moduleReaderCount_a, moduleReaderCount_res, fun d => moduleReaderCount n d.1 d.2.1.1 d.2.1.2 d.2.2.1 d.2.2.2⟩
theorem moduleReaderCount_ok (n : Nat) : EOK Try.prog 71 (moduleReaderCount_E n) :=
 EOK.ofS prog_names prog_mixed tab_ok (tbl := moduleReaderCount_tbl n) (loops := moduleReaderCount_loops n) (an := moduleReaderCount_an) (old := [some true, some true]) (n := n) (c := moduleReaderCount_c) (fn := Try.f71) (TblOK.cons (AllE.cons (numReaderVar_ok n) AllE.nil) (TblOK.cons (AllE.cons (numReaderBad_ok n) AllE.nil) TblOK.nil)) (by kernel_rfl) (by kernel_rfl) (by kernel_rfl) (by kernel_rfl) (fun d => by kernel_rfl) LT.nil (fun a => moduleReaderCount_run n a.1 a.2.1.1 a.2.1.2 a.2.2.1 a.2.2.2)
noncomputable def moduleDecode2_an : Ann := {}
noncomputable def moduleDecode2_c : Code := (match Try.f58.body with | some c => c | none => .skip)
noncomputable def moduleDecode2_a : StSh := ⟨.normal, [0], (.cons (.ptr 0 0 0 0) .nil), (.cons (.bcells 0 false 1 (.cons (.ptr 1 0 0 0) .nil)) (.cons (.bcells 0 false 1 (.cons (.ptr 2 0 0 0) (.cons (.int .i64) (.cons .bool .nil)))) (.cons (.bcells 0 false 1 (.cons (.sl false false (.int .u8)) (.cons .bool .nil))) .nil)))⟩
noncomputable def moduleListApiTypeq1_an : Ann := { live := [(0, [0, 2, 7, 10, 11])], boxed := [(1, 0), (5, 4)] }
noncomputable def moduleListApiTypeq1_c : Code := (match Try.f59.body with | some c => c | none => .skip)
noncomputable def moduleListApiTypeq1_l0 : Code := (match assoc 0 (loopsIn moduleListApiTypeq1_c 0) with | some c => c | none => .skip)
noncomputable def moduleListApiTypeq1_a : StSh := ⟨.normal, [0, 1, 2], (.cons (.ptr 0 0 0 0) (.cons (.int .i64) (.cons (.fn 60 (.cons (.ptr 0 0 0 0) .nil) .nil) .nil))), (.cons (.bcells 0 false 1 (.cons (.ptr 1 0 0 0) (.cons (.int .i64) (.cons .bool .nil)))) (.cons (.bcells 0 false 1 (.cons (.sl false false (.int .u8)) (.cons .bool .nil))) .nil))⟩
noncomputable def moduleReaderOne_an : Ann := {}
noncomputable def moduleReaderOne_c : Code := (match Try.f60.body with | some c => c | none => .skip)
noncomputable def moduleReaderOne_a : StSh := ⟨.normal, [0], (.cons (.ptr 0 0 0 0) .nil), (.cons (.bcells 0 false 1 (.cons (.ptr 1 0 0 0) (.cons (.int .i64) (.cons .bool .nil)))) (.cons (.bcells 0 false 1 (.cons (.sl false false (.int .u8)) (.cons .bool .nil))) .nil))⟩
noncomputable def kindGet_an : Ann := {}
noncomputable def kindGet_c : Code := (match Try.f106.body with | some c => c | none => .skip)
noncomputable def kindGet_a : StSh := ⟨.normal, [0, 1], (.cons (.ptr 0 0 0 0) (.cons (.int .i64) .nil)), (.cons (.bcells 0 false 1 (.cons (.sl false false (.int .u8)) (.cons .bool .nil))) .nil)⟩
noncomputable def kindGet_res : List StSh := [⟨.ret, [0], (.cons (.tup (.cons (.agg (.cons (.int .i64) (.cons (.int .i64) .nil))) (.cons .bool .nil))) .nil), (.cons (.bcells 0 false 1 (.cons (.sl false false (.int .u8)) (.cons .bool .nil))) .nil)⟩]
noncomputable def kindGet_tbl (n : Nat) : FuncId → List Entry := fun f => bif Nat.beq f 56 then [numReaderVar_E n] else bif Nat.beq f 104 then [numReaderBad_E n] else bif Nat.beq f 92 then [kindGood_E n] else []
noncomputable def kindGet_loops (n : Nat) : Nat → Option LEntry := fun f => none
theorem kindGet_run (n : Nat) (recs_1 : Int) (m0 : DC) (m0_1 : Bool) : funDS (real _) tab (kindGet_tbl n) (kindGet_loops n) kindGet_an Try.f106 1 kindGet_a kindGet_res (recs_1, (m0, m0_1)) some = kindGet n recs_1 m0 m0_1 := by kernel_rfl
noncomputable def kindGet_E (n : Nat) : Entry := ⟨kindGet_a, kindGet_res, fun d => kindGet n d.1 d.2.1 d.2.2⟩
theorem kindGet_ok (n : Nat) : EOK Try.prog 106 (kindGet_E n) :=
 EOK.ofS prog_names prog_mixed tab_ok (tbl := kindGet_tbl n) (loops := kindGet_loops n) (an := kindGet_an) (old := [some true]) (n := n) (c := kindGet_c) (fn := Try.f106) (TblOK.cons (AllE.cons (numReaderVar_ok n) AllE.nil) (TblOK.cons (AllE.cons (numReaderBad_ok n) AllE.nil) (TblOK.cons (AllE.cons (kindGood_ok n) AllE.nil) TblOK.nil))) (by kernel_rfl) (by kernel_rfl) (by kernel_rfl) (by kernel_rfl) (fun d => by kernel_rfl) LT.nil (fun a => kindGet_run n a.1 a.2.1 a.2.2)
noncomputable def moduleReaderOne_res : List StSh := [⟨.ret, [0], (.cons (.agg (.cons (.int .i64) (.cons (.int .i64) .nil))) .nil), (.cons (.bcells 0 false 1 (.cons (.ptr 1 0 0 0) (.cons (.int .i64) (.cons .bool .nil)))) (.cons (.bcells 0 false 1 (.cons (.sl false false (.int .u8)) (.cons .bool .nil))) .nil))⟩]
noncomputable def moduleReaderOne_tbl (n : Nat) : FuncId → List Entry := fun f => bif Nat.beq f 106 then [kindGet_E n] else []
noncomputable def moduleReaderOne_loops (n : Nat) : Nat → Option LEntry := fun f => none
theorem moduleReaderOne_run (n : Nat) (m0 : Int) (m0_1 : Bool) (m1 : DC) (m1_1 : Bool) : funDS (real _) tab (moduleReaderOne_tbl n) (moduleReaderOne_loops n) moduleReaderOne_an Try.f60 2 moduleReaderOne_a moduleReaderOne_res ((m0, m0_1), (m1, m1_1)) some = moduleReaderOne n m0 m0_1 m1 m1_1 := by kernel_rfl
noncomputable def moduleReaderOne_E (n : Nat) : Entry := ⟨moduleReaderOne_a, moduleReaderOne_res, fun d => moduleReaderOne n d.1.1 d.1.2 d.2.1 d.2.2⟩
theorem moduleReaderOne_ok (n : Nat) : EOK Try.prog 60 (moduleReaderOne_E n) :=
 EOK.ofS prog_names prog_mixed tab_ok (tbl := moduleReaderOne_tbl n) (loops := moduleReaderOne_loops n) (an := moduleReaderOne_an) (old := [some true, some true]) (n := n) (c := moduleReaderOne_c) (fn := Try.f60) (TblOK.cons (AllE.cons (kindGet_ok n) AllE.nil) TblOK.nil) (by kernel_rfl) (by kernel_rfl) (by kernel_rfl) (by kernel_rfl) (fun d => by kernel_rfl) LT.nil (fun a => moduleReaderOne_run n a.1.1 a.1.2 a.2.1 a.2.2)
noncomputable def moduleListApiTypeq1_h0 : List StSh := [⟨.normal, [0, 2, 7, 10, 11], (.cons (.ptr 0 0 0 0) (.cons (.fn 60 (.cons (.ptr 0 0 0 0) .nil) .nil) (.cons (.msw 2 0) (.cons (.int .i64) (.cons (.int .i64) .nil))))), (.cons (.bcells 0 false 1 (.cons (.ptr 1 0 0 0) (.cons (.int .i64) (.cons .bool .nil)))) (.cons (.bcells 0 false 1 (.cons (.sl false false (.int .u8)) (.cons .bool .nil))) (.cons (.bts 0 false false true yD) .nil)))⟩]
noncomputable def moduleListApiTypeq1_o0 : List StSh := [⟨.exit 0, [7], (.cons (.msw 2 0) .nil), (.cons (.bcells 0 false 1 (.cons (.ptr 1 0 0 0) (.cons (.int .i64) (.cons .bool .nil)))) (.cons (.bcells 0 false 1 (.cons (.sl false false (.int .u8)) (.cons .bool .nil))) (.cons (.bts 0 false false true yD) .nil)))⟩]
noncomputable def moduleListApiTypeq1_L0 (n : Nat) : LEntry := ⟨moduleListApiTypeq1_h0, moduleListApiTypeq1_o0, moduleListApiTypeq1_W0 n⟩
noncomputable def moduleListApiTypeq1_res : List StSh := [⟨.ret, [0], (.cons (.sl false true yD) .nil), (.cons (.bcells 0 false 1 (.cons (.ptr 1 0 0 0) (.cons (.int .i64) (.cons .bool .nil)))) (.cons (.bcells 0 false 1 (.cons (.sl false false (.int .u8)) (.cons .bool .nil))) .nil))⟩]
noncomputable def moduleListApiTypeq1_tbl (n : Nat) : FuncId → List Entry := fun f => bif Nat.beq f 71 then [moduleReaderCount_E n] else bif Nat.beq f 60 then [moduleReaderOne_E n] else []
noncomputable def moduleListApiTypeq1_loops (n : Nat) : Nat → Option LEntry := fun f => bif Nat.beq f 0 then some (moduleListApiTypeq1_L0 n) else none
theorem moduleListApiTypeq1_r0 (n : Nat) (t10 : Int) (t11 : Int) (m0 : Int) (m0_1 : Bool) (m1 : DC) (m1_1 : Bool) (m2 : DA) : roundK (real _) tab (moduleListApiTypeq1_tbl n) (moduleListApiTypeq1_loops n) moduleListApiTypeq1_an [some true, some true] moduleListApiTypeq1_l0 0 [0, 2, 7, 10, 11] moduleListApiTypeq1_h0 moduleListApiTypeq1_o0 ((t10, t11), ((m0, m0_1), ((m1, m1_1), m2))) some = moduleListApiTypeq1_B0 n t10 t11 m0 m0_1 m1 m1_1 m2 := by kernel_rfl
theorem moduleListApiTypeq1_f0 (n : Nat) : LoopFact tab (moduleListApiTypeq1_tbl n) (moduleListApiTypeq1_loops n) moduleListApiTypeq1_an [some true, some true] n 0 moduleListApiTypeq1_l0 (moduleListApiTypeq1_L0 n) := ⟨[0, 2, 7, 10, 11], (fun s => moduleListApiTypeq1_B0 n s.1.1 s.1.2 s.2.1.1 s.2.1.2 s.2.2.1.1 s.2.2.1.2 s.2.2.2), by kernel_rfl, by kernel_rfl, fun s => rfl, fun s => moduleListApiTypeq1_r0 n s.1.1 s.1.2 s.2.1.1 s.2.1.2 s.2.2.1.1 s.2.2.1.2 s.2.2.2⟩
theorem moduleListApiTypeq1_run (n : Nat) (most_1 : Int) (m0 : Int) (m0_1 : Bool) (m1 : DC) (m1_1 : Bool) : funDS (real _) tab (moduleListApiTypeq1_tbl n) (moduleListApiTypeq1_loops n) moduleListApiTypeq1_an Try.f59 2 moduleListApiTypeq1_a moduleListApiTypeq1_res (most_1, ((m0, m0_1), (m1, m1_1))) some = moduleListApiTypeq1 n most_1 m0 m0_1 m1 m1_1 := by kernel_rfl
noncomputable def moduleListApiTypeq1_E (n : Nat) : Entry := ⟨moduleListApiTypeq1_a, moduleListApiTypeq1_res, fun d => moduleListApiTypeq1 n d.1 d.2.1.1 d.2.1.2 d.2.2.1 d.2.2.2⟩
theorem moduleListApiTypeq1_ok (n : Nat) : EOK Try.prog 59 (moduleListApiTypeq1_E n) :=
 EOK.ofS prog_names prog_mixed tab_ok (tbl := moduleListApiTypeq1_tbl n) (loops := moduleListApiTypeq1_loops n) (an := moduleListApiTypeq1_an) (old := [some true, some true]) (n := n) (c := moduleListApiTypeq1_c) (fn := Try.f59) (TblOK.cons (AllE.cons (moduleReaderCount_ok n) AllE.nil) (TblOK.cons (AllE.cons (moduleReaderOne_ok n) AllE.nil) TblOK.nil)) (by kernel_rfl) (by kernel_rfl) (by kernel_rfl) (by kernel_rfl) (fun d => by kernel_rfl) (LT.cons (by kernel_rfl) (moduleListApiTypeq1_f0 n) LT.nil) (fun a => moduleListApiTypeq1_run n a.1 a.2.1.1 a.2.1.2 a.2.2.1 a.2.2.2)
noncomputable def moduleDecode2_res : List StSh := [⟨.ret, [0], (.cons (.sl false true yD) .nil), (.cons (.bcells 0 false 1 (.cons (.ptr 1 0 0 0) .nil)) (.cons (.bcells 0 false 1 (.cons (.ptr 2 0 0 0) (.cons (.int .i64) (.cons .bool .nil)))) (.cons (.bcells 0 false 1 (.cons (.sl false false (.int .u8)) (.cons .bool .nil))) .nil)))⟩]
noncomputable def moduleDecode2_tbl (n : Nat) : FuncId → List Entry := fun f => bif Nat.beq f 59 then [moduleListApiTypeq1_E n] else []
noncomputable def moduleDecode2_loops (n : Nat) : Nat → Option LEntry := fun f => none
theorem moduleDecode2_run (n : Nat) (m1 : Int) (m1_1 : Bool) (m2 : DC) (m2_1 : Bool) : funDS (real _) tab (moduleDecode2_tbl n) (moduleDecode2_loops n) moduleDecode2_an Try.f58 3 moduleDecode2_a moduleDecode2_res ((m1, m1_1), (m2, m2_1)) some = moduleDecode2 n m1 m1_1 m2 m2_1 := by kernel_rfl
noncomputable def moduleDecode2_E (n : Nat) : Entry := ⟨moduleDecode2_a, moduleDecode2_res, fun d => moduleDecode2 n d.1.1 d.1.2 d.2.1 d.2.2⟩
theorem moduleDecode2_ok (n : Nat) : EOK Try.prog 58 (moduleDecode2_E n) :=
 EOK.ofS prog_names prog_mixed tab_ok (tbl := moduleDecode2_tbl n) (loops := moduleDecode2_loops n) (an := moduleDecode2_an) (old := [some true, some true, some true]) (n := n) (c := moduleDecode2_c) (fn := Try.f58) (TblOK.cons (AllE.cons (moduleListApiTypeq1_ok n) AllE.nil) TblOK.nil) (by kernel_rfl) (by kernel_rfl) (by kernel_rfl) (by kernel_rfl) (fun d => by kernel_rfl) LT.nil (fun a => moduleDecode2_run n a.1.1 a.1.2 a.2.1 a.2.2)
noncomputable def moduleListApiType_h0 : List StSh := [⟨.normal, [0, 2, 7, 10, 11], (.cons (.ptr 0 0 0 0) (.cons (.fn 58 .nil (.cons (.ptr 1 0 0 0) .nil)) (.cons (.msw 3 0) (.cons (.int .i64) (.cons (.int .i64) .nil))))), (.cons (.bcells 0 false 1 (.cons (.ptr 2 0 0 0) (.cons (.int .i64) (.cons .bool .nil)))) (.cons (.bcells 0 false 1 (.cons (.ptr 0 0 0 0) .nil)) (.cons (.bcells 0 false 1 (.cons (.sl false false (.int .u8)) (.cons .bool .nil))) (.cons (.bts 0 false false false yA) .nil))))⟩]
noncomputable def moduleListApiType_o0 : List StSh := [⟨.exit 0, [7], (.cons (.msw 3 0) .nil), (.cons (.bcells 0 false 1 (.cons (.ptr 2 0 0 0) (.cons (.int .i64) (.cons .bool .nil)))) (.cons (.bcells 0 false 1 (.cons (.ptr 0 0 0 0) .nil)) (.cons (.bcells 0 false 1 (.cons (.sl false false (.int .u8)) (.cons .bool .nil))) (.cons (.bts 0 false false false yA) .nil))))⟩]
noncomputable def moduleListApiType_L0 (n : Nat) : LEntry := ⟨moduleListApiType_h0, moduleListApiType_o0, moduleListApiType_W0 n⟩
noncomputable def moduleListApiType_res : List StSh := [⟨.ret, [0], (.cons (.sl false false yA) .nil), (.cons (.bcells 0 false 1 (.cons (.ptr 2 0 0 0) (.cons (.int .i64) (.cons .bool .nil)))) (.cons (.bcells 0 false 1 (.cons (.ptr 0 0 0 0) .nil)) (.cons (.bcells 0 false 1 (.cons (.sl false false (.int .u8)) (.cons .bool .nil))) .nil)))⟩]
noncomputable def moduleListApiType_tbl (n : Nat) : FuncId → List Entry := fun f => bif Nat.beq f 71 then [moduleReaderCount_E n] else bif Nat.beq f 58 then [moduleDecode2_E n] else []
noncomputable def moduleListApiType_loops (n : Nat) : Nat → Option LEntry := fun f => bif Nat.beq f 0 then some (moduleListApiType_L0 n) else none
theorem moduleListApiType_r0 (n : Nat) (t10 : Int) (t11 : Int) (m0 : Int) (m0_1 : Bool) (m2 : DC) (m2_1 : Bool) (m3 : DG) : roundK (real _) tab (moduleListApiType_tbl n) (moduleListApiType_loops n) moduleListApiType_an [some true, some true, some true] moduleListApiType_l0 0 [0, 2, 7, 10, 11] moduleListApiType_h0 moduleListApiType_o0 ((t10, t11), ((m0, m0_1), ((m2, m2_1), m3))) some = moduleListApiType_B0 n t10 t11 m0 m0_1 m2 m2_1 m3 := by kernel_rfl
theorem moduleListApiType_f0 (n : Nat) : LoopFact tab (moduleListApiType_tbl n) (moduleListApiType_loops n) moduleListApiType_an [some true, some true, some true] n 0 moduleListApiType_l0 (moduleListApiType_L0 n) := ⟨[0, 2, 7, 10, 11], (fun s => moduleListApiType_B0 n s.1.1 s.1.2 s.2.1.1 s.2.1.2 s.2.2.1.1 s.2.2.1.2 s.2.2.2), by kernel_rfl, by kernel_rfl, fun s => rfl, fun s => moduleListApiType_r0 n s.1.1 s.1.2 s.2.1.1 s.2.1.2 s.2.2.1.1 s.2.2.1.2 s.2.2.2⟩
theorem moduleListApiType_run (n : Nat) (most_1 : Int) (m0 : Int) (m0_1 : Bool) (m2 : DC) (m2_1 : Bool) : funDS (real _) tab (moduleListApiType_tbl n) (moduleListApiType_loops n) moduleListApiType_an Try.f57 3 moduleListApiType_a moduleListApiType_res (most_1, ((m0, m0_1), (m2, m2_1))) some = moduleListApiType n most_1 m0 m0_1 m2 m2_1 := by kernel_rfl
noncomputable def moduleListApiType_E (n : Nat) : Entry := ⟨moduleListApiType_a, moduleListApiType_res, fun d => moduleListApiType n d.1 d.2.1.1 d.2.1.2 d.2.2.1 d.2.2.2⟩
theorem moduleListApiType_ok (n : Nat) : EOK Try.prog 57 (moduleListApiType_E n) :=
 EOK.ofS prog_names prog_mixed tab_ok (tbl := moduleListApiType_tbl n) (loops := moduleListApiType_loops n) (an := moduleListApiType_an) (old := [some true, some true, some true]) (n := n) (c := moduleListApiType_c) (fn := Try.f57) (TblOK.cons (AllE.cons (moduleReaderCount_ok n) AllE.nil) (TblOK.cons (AllE.cons (moduleDecode2_ok n) AllE.nil) TblOK.nil)) (by kernel_rfl) (by kernel_rfl) (by kernel_rfl) (by kernel_rfl) (fun d => by kernel_rfl) (LT.cons (by kernel_rfl) (moduleListApiType_f0 n) LT.nil) (fun a => moduleListApiType_run n a.1 a.2.1.1 a.2.1.2 a.2.2.1 a.2.2.2)
noncomputable def moduleDecode1v1_an : Ann := {}
noncomputable def moduleDecode1v1_c : Code := (match Try.f54.body with | some c => c | none => .skip)
noncomputable def moduleDecode1v1_a : StSh := ⟨.normal, [0, 1, 2], (.cons (.int .i64) (.cons (.ptr 0 0 0 0) (.cons (.ptr 1 0 0 0) .nil))), (.cons (.bcells 0 false 1 (.cons (.sl false false yF) .nil)) (.cons (.bcells 0 false 1 (.cons (.sl false false yA) (.cons .nilS (.cons .nilS (.cons .nilS (.cons .nilS .nil)))))) .nil))⟩
noncomputable def moduleDecode1v1_res : List StSh := [⟨.ret, [0], (.cons (.ptr 2 0 0 0) .nil), (.cons (.bcells 0 false 1 (.cons (.sl false false yF) .nil)) (.cons (.bcells 0 false 1 (.cons (.sl false false yA) (.cons .nilS (.cons .nilS (.cons .nilS (.cons .nilS .nil)))))) (.cons (.bcells 0 false 1 (.cons (.ptr 3 0 0 0) (.cons (.int .i64) (.cons .bool .nil)))) (.cons (.bcells 0 false 1 (.cons (.sl false false (.int .u8)) (.cons .bool .nil))) .nil))))⟩]
noncomputable def moduleDecode1v1_tbl (n : Nat) : FuncId → List Entry := fun f => bif Nat.beq f 55 then [numNewReader_E n] else []
noncomputable def moduleDecode1v1_loops (n : Nat) : Nat → Option LEntry := fun f => none
theorem moduleDecode1v1_run (n : Nat) (k_0 : Int) (m0 : DJ) (m1 : DG) : funDS (real _) tab (moduleDecode1v1_tbl n) (moduleDecode1v1_loops n) moduleDecode1v1_an Try.f54 2 moduleDecode1v1_a moduleDecode1v1_res (k_0, (m0, m1)) some = moduleDecode1v1 n k_0 m0 m1 := by kernel_rfl
noncomputable def moduleDecode1v1_E (n : Nat) : Entry := ⟨moduleDecode1v1_a, moduleDecode1v1_res, fun d => moduleDecode1v1 n d.1 d.2.1 d.2.2⟩
theorem moduleDecode1v1_ok (n : Nat) : EOK Try.prog 54 (moduleDecode1v1_E n) :=
 EOK.ofS prog_names prog_mixed tab_ok (tbl := moduleDecode1v1_tbl n) (loops := moduleDecode1v1_loops n) (an := moduleDecode1v1_an) (old := [some true, some true]) (n := n) (c := moduleDecode1v1_c) (fn := Try.f54) (TblOK.cons (AllE.cons (numNewReader_ok n) AllE.nil) TblOK.nil) (by kernel_rfl) (by kernel_rfl) (by kernel_rfl) (by kernel_rfl) (fun d => by kernel_rfl) LT.nil (fun a => moduleDecode1v1_run n a.1 a.2.1 a.2.2)
noncomputable def moduleListApiFunc_an : Ann := { live := [(0, [0, 2, 7, 10, 11])], boxed := [(1, 0), (5, 4)] }
noncomputable def moduleListApiFunc_c : Code := (match Try.f61.body with | some c => c | none => .skip)
noncomputable def moduleListApiFunc_l0 : Code := (match assoc 0 (loopsIn moduleListApiFunc_c 0) with | some c => c | none => .skip)
noncomputable def moduleListApiFunc_a : StSh := ⟨.normal, [0, 1, 2], (.cons (.ptr 0 0 0 0) (.cons (.int .i64) (.cons (.fn 62 (.cons (.ptr 0 0 0 0) .nil) .nil) .nil))), (.cons (.bcells 0 false 1 (.cons (.ptr 1 0 0 0) (.cons (.int .i64) (.cons .bool .nil)))) (.cons (.bcells 0 false 1 (.cons (.sl false false (.int .u8)) (.cons .bool .nil))) .nil))⟩
noncomputable def moduleReaderFunction_an : Ann := {}
noncomputable def moduleReaderFunction_c : Code := (match Try.f62.body with | some c => c | none => .skip)
noncomputable def moduleReaderFunction_a : StSh := ⟨.normal, [0], (.cons (.ptr 0 0 0 0) .nil), (.cons (.bcells 0 false 1 (.cons (.ptr 1 0 0 0) (.cons (.int .i64) (.cons .bool .nil)))) (.cons (.bcells 0 false 1 (.cons (.sl false false (.int .u8)) (.cons .bool .nil))) .nil))⟩
noncomputable def moduleListApiInstr_an : Ann := { live := [(0, [0, 2, 7, 10, 11])], boxed := [(1, 0), (5, 4)] }
noncomputable def moduleListApiInstr_c : Code := (match Try.f107.body with | some c => c | none => .skip)
noncomputable def moduleListApiInstr_l0 : Code := (match assoc 0 (loopsIn moduleListApiInstr_c 0) with | some c => c | none => .skip)
noncomputable def moduleListApiInstr_a : StSh := ⟨.normal, [0, 1, 2], (.cons (.ptr 0 0 0 0) (.cons (.int .i64) (.cons (.fn 108 (.cons (.ptr 0 0 0 0) .nil) .nil) .nil))), (.cons (.bcells 0 false 1 (.cons (.ptr 1 0 0 0) (.cons (.int .i64) (.cons .bool .nil)))) (.cons (.bcells 0 false 1 (.cons (.sl false false (.int .u8)) (.cons .bool .nil))) .nil))⟩
noncomputable def moduleReaderInstr_an : Ann := {}
noncomputable def moduleReaderInstr_c : Code := (match Try.f108.body with | some c => c | none => .skip)
noncomputable def moduleReaderInstr_a : StSh := ⟨.normal, [0], (.cons (.ptr 0 0 0 0) .nil), (.cons (.bcells 0 false 1 (.cons (.ptr 1 0 0 0) (.cons (.int .i64) (.cons .bool .nil)))) (.cons (.bcells 0 false 1 (.cons (.sl false false (.int .u8)) (.cons .bool .nil))) .nil))⟩
noncomputable def instGet_an : Ann := { live := [(0, [0, 2, 4, 6, 20, 21])] }
noncomputable def instGet_c : Code := (match Try.f118.body with | some c => c | none => .skip)
noncomputable def instGet_l0 : Code := (match assoc 0 (loopsIn instGet_c 0) with | some c => c | none => .skip)
noncomputable def instGet_a : StSh := ⟨.normal, [0], (.cons (.ptr 0 0 0 0) .nil), (.cons (.bcells 0 false 1 (.cons (.sl false false (.int .u8)) (.cons .bool .nil))) .nil)⟩
noncomputable def numReaderFixed_an : Ann := {}
noncomputable def numReaderFixed_c : Code := (match Try.f67.body with | some c => c | none => .skip)
noncomputable def numReaderFixed_a : StSh := ⟨.normal, [0, 1], (.cons (.ptr 0 0 0 0) (.cons (.int .i64) .nil)), (.cons (.bcells 0 false 1 (.cons (.sl false false (.int .u8)) (.cons .bool .nil))) .nil)⟩
noncomputable def BackwardByte_an : Ann := {}
noncomputable def BackwardByte_c : Code := (match Try.f109.body with | some c => c | none => .skip)
noncomputable def BackwardByte_a : StSh := ⟨.normal, [0], (.cons (.sl true false (.int .u8)) .nil), .nil⟩
noncomputable def BackwardByte_res : List StSh := [⟨.ret, [0], (.cons (.fn 119 .nil (.cons (.ptr 0 0 0 0) .nil)) .nil), (.cons (.bcells 0 false 1 (.cons (.sl true false (.int .u8)) .nil)) .nil)⟩]
noncomputable def BackwardByte_tbl (n : Nat) : FuncId → List Entry := fun f => []
noncomputable def BackwardByte_loops (n : Nat) : Nat → Option LEntry := fun f => none
theorem BackwardByte_run (n : Nat) (s_0 : DC) : funDS (real _) tab (BackwardByte_tbl n) (BackwardByte_loops n) BackwardByte_an Try.f109 0 BackwardByte_a BackwardByte_res s_0 some = BackwardByte n s_0 := by kernel_rfl
noncomputable def BackwardByte_E (n : Nat) : Entry := ⟨BackwardByte_a, BackwardByte_res, fun d => BackwardByte n d⟩
theorem BackwardByte_ok (n : Nat) : EOK Try.prog 109 (BackwardByte_E n) :=
 EOK.ofS prog_names prog_mixed tab_ok (tbl := BackwardByte_tbl n) (loops := BackwardByte_loops n) (an := BackwardByte_an) (old := []) (n := n) (c := BackwardByte_c) (fn := Try.f109) TblOK.nil (by kernel_rfl) (by kernel_rfl) (by kernel_rfl) (by kernel_rfl) (fun d => by kernel_rfl) LT.nil (fun a => BackwardByte_run n a)
noncomputable def numReaderFixed_res : List StSh := [⟨.ret, [0], (.cons (.int .u64) .nil), (.cons (.bcells 0 false 1 (.cons (.sl false false (.int .u8)) (.cons .bool .nil))) .nil)⟩]
noncomputable def numReaderFixed_tbl (n : Nat) : FuncId → List Entry := fun f => bif Nat.beq f 70 then [numReaderTake_E n] else bif Nat.beq f 109 then [BackwardByte_E n] else []
noncomputable def numReaderFixed_E (n : Nat) : Entry := ⟨numReaderFixed_a, numReaderFixed_res, fun d => numReaderFixed n d.1 d.2.1 d.2.2⟩
end Sx
