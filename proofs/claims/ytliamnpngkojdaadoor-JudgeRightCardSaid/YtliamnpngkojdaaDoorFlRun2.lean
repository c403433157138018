import Derived.Test.YtliamnpngkojdaaDoorProg
import Derived.Test.YtliamnpngkojdaaDoorLib32
import Derived.Test.YtliamnpngkojdaaDoorFlRun1
import Derived.KernelRfl
open Go Go.Ab Go.Proofs
set_option linter.unusedVariables false
set_option maxRecDepth 20000
namespace Sx
noncomputable section
def qbp_an : Ann := { live := [(0, [2, 3, 11, 12, 13, 14, 16, 17])], boxed := [(12, 0), (12, 4)] }
def qbp_c : Code := (match Tryd.f17.body with | some c => c | none => .skip)
def qbp_l0 : Code := (match assoc 0 (loopsIn qbp_c 0) with | some c => c | none => .skip)
def qbp_a : StSh := ⟨.normal, [0, 1, 2, 3], (.cons (.agg (.cons (.sl true false yA) (.cons (.sl true true yB) (.cons (.sl true true yC) (.cons (.sl true false (.int .u64)) (.cons (.sl true false .str) .nil)))))) (.cons (.int .i64) (.cons (.int .i64) (.cons (.sl true true yD) .nil)))), .nil⟩
def qbo_an : Ann := {}
def qbo_c : Code := (match Tryd.f21.body with | some c => c | none => .skip)
def qbo_a : StSh := ⟨.normal, [0, 1, 2, 3], (.cons (.agg (.cons (.sl true false yA) (.cons (.sl true true yB) (.cons (.sl true true yC) (.cons (.sl true false (.int .u64)) (.cons (.sl true false .str) .nil)))))) (.cons (.agg (.cons (.sl true true yD) (.cons (.int .i64) (.cons (.int .i64) (.cons (.sl true true yD) (.cons (.sl true true yE) .nil)))))) (.cons (.agg (.cons (.int .i64) (.cons (.int .i64) (.cons (.int .i64) .nil)))) (.cons (.sl true true yD) .nil)))), .nil⟩
def qbc_an : Ann := { boxed := [(1, 0), (1, 3)] }
def qbc_c : Code := (match Tryd.f19.body with | some c => c | none => .skip)
def qbc_a : StSh := ⟨.normal, [0, 1], (.cons (.agg (.cons (.sl true true yD) (.cons (.int .i64) (.cons (.int .i64) (.cons (.sl true true yD) (.cons (.sl true true yE) .nil)))))) (.cons (.int .i64) .nil)), .nil⟩
def qbc_res : List StSh := [⟨.ret, [0], (.cons (.agg (.cons (.int .i64) (.cons (.int .i64) .nil))) .nil), .nil⟩]
def qbc_tbl (n : Nat) : FuncId → List Entry := fun f => []
def qbc_loops (n : Nat) : Nat → Option LEntry := fun f => none
theorem qbc_run (n : Nat) (f_0 : DA) (f_0_1 : Int) (f_0_2 : Int) (f_0_3 : DA) (f_0_4 : DB) (n_1 : Int) : funDS (real _) tab (qbc_tbl n) (qbc_loops n) qbc_an Tryd.f19 0 qbc_a qbc_res ((f_0, (f_0_1, (f_0_2, (f_0_3, f_0_4)))), n_1) some = qbc n f_0 f_0_1 f_0_2 f_0_3 f_0_4 n_1 := by kernel_rfl
def qbc_E (n : Nat) : Entry := ⟨qbc_a, qbc_res, fun d => qbc n d.1.1 d.1.2.1 d.1.2.2.1 d.1.2.2.2.1 d.1.2.2.2.2 d.2⟩
theorem qbc_ok (n : Nat) : EOK Tryd.prog 19 (qbc_E n) :=
 EOK.ofS zc zd zf (tbl := qbc_tbl n) (loops := qbc_loops n) (an := qbc_an) (old := []) (n := n) (c := qbc_c) (fn := Tryd.f19) TblOK.nil (by kernel_rfl) (by kernel_rfl) (by kernel_rfl) (by kernel_rfl) (fun d => by kernel_rfl) LT.nil (fun a => qbc_run n a.1.1 a.1.2.1 a.1.2.2.1 a.1.2.2.2.1 a.1.2.2.2.2 a.2)
def qbo_res : List StSh := [⟨.ret, [0], (.cons (.tup (.cons (.sl true true yD) (.cons (.sl false true yD) (.cons .bool .nil)))) .nil), .nil⟩]
def qbo_tbl (n : Nat) : FuncId → List Entry := fun f => bif Nat.beq f 19 then [qbc_E n] else []
def qbo_loops (n : Nat) : Nat → Option LEntry := fun f => none
theorem qbo_run (n : Nat) (t0 : DH) (t0_1 : DI) (t0_2 : DJ) (t0_3 : DC) (t0_4 : DD) (t1 : DA) (t1_1 : Int) (t1_2 : Int) (t1_3 : DA) (t1_4 : DB) (t2 : Int) (t2_1 : Int) (t2_2 : Int) (t3 : DA) : funDS (real _) tab (qbo_tbl n) (qbo_loops n) qbo_an Tryd.f21 0 qbo_a qbo_res ((t0, (t0_1, (t0_2, (t0_3, t0_4)))), ((t1, (t1_1, (t1_2, (t1_3, t1_4)))), ((t2, (t2_1, t2_2)), t3))) some = qbo n t0 t0_1 t0_2 t0_3 t0_4 t1 t1_1 t1_2 t1_3 t1_4 t2 t2_1 t2_2 t3 := by kernel_rfl
def qbo_E (n : Nat) : Entry := ⟨qbo_a, qbo_res, fun d => qbo n d.1.1 d.1.2.1 d.1.2.2.1 d.1.2.2.2.1 d.1.2.2.2.2 d.2.1.1 d.2.1.2.1 d.2.1.2.2.1 d.2.1.2.2.2.1 d.2.1.2.2.2.2 d.2.2.1.1 d.2.2.1.2.1 d.2.2.1.2.2 d.2.2.2⟩
theorem qbo_ok (n : Nat) : EOK Tryd.prog 21 (qbo_E n) :=
 EOK.ofS zc zd zf (tbl := qbo_tbl n) (loops := qbo_loops n) (an := qbo_an) (old := []) (n := n) (c := qbo_c) (fn := Tryd.f21) (TblOK.cons (AllE.cons (qbc_ok n) AllE.nil) TblOK.nil) (by kernel_rfl) (by kernel_rfl) (by kernel_rfl) (by kernel_rfl) (fun d => by kernel_rfl) LT.nil (fun a => qbo_run n a.1.1 a.1.2.1 a.1.2.2.1 a.1.2.2.2.1 a.1.2.2.2.2 a.2.1.1 a.2.1.2.1 a.2.1.2.2.1 a.2.1.2.2.2.1 a.2.1.2.2.2.2 a.2.2.1.1 a.2.2.1.2.1 a.2.2.1.2.2 a.2.2.2)
def qch_an : Ann := {}
def qch_c : Code := (match Tryd.f33.body with | some c => c | none => .skip)
def qch_a : StSh := ⟨.normal, [0, 1], (.cons (.agg (.cons (.int .i64) (.cons (.int .i64) .nil))) (.cons (.agg (.cons (.int .i64) (.cons (.int .i64) .nil))) .nil)), .nil⟩
def qca_an : Ann := {}
def qca_c : Code := (match Tryd.f60.body with | some c => c | none => .skip)
def qca_a : StSh := ⟨.normal, [0], (.cons (.agg (.cons (.int .i64) (.cons (.int .i64) .nil))) .nil), .nil⟩
def qca_res : List StSh := [⟨.ret, [0], (.cons .bool .nil), .nil⟩]
def qca_tbl (n : Nat) : FuncId → List Entry := fun f => []
def qca_loops (n : Nat) : Nat → Option LEntry := fun f => none
theorem qca_run (n : Nat) (t_0 : Int) (t_0_1 : Int) : funDS (real _) tab (qca_tbl n) (qca_loops n) qca_an Tryd.f60 0 qca_a qca_res (t_0, t_0_1) some = qca n t_0 t_0_1 := by kernel_rfl
def qca_E (n : Nat) : Entry := ⟨qca_a, qca_res, fun d => qca n d.1 d.2⟩
theorem qca_ok (n : Nat) : EOK Tryd.prog 60 (qca_E n) :=
 EOK.ofS zc zd zf (tbl := qca_tbl n) (loops := qca_loops n) (an := qca_an) (old := []) (n := n) (c := qca_c) (fn := Tryd.f60) TblOK.nil (by kernel_rfl) (by kernel_rfl) (by kernel_rfl) (by kernel_rfl) (fun d => by kernel_rfl) LT.nil (fun a => qca_run n a.1 a.2)
def qch_res : List StSh := [⟨.ret, [0], (.cons .bool .nil), .nil⟩]
def qch_tbl (n : Nat) : FuncId → List Entry := fun f => bif Nat.beq f 60 then [qca_E n] else []
def qch_loops (n : Nat) : Nat → Option LEntry := fun f => none
theorem qch_run (n : Nat) (a_0 : Int) (a_0_1 : Int) (b_1 : Int) (b_1_1 : Int) : funDS (real _) tab (qch_tbl n) (qch_loops n) qch_an Tryd.f33 0 qch_a qch_res ((a_0, a_0_1), (b_1, b_1_1)) some = qch n a_0 a_0_1 b_1 b_1_1 := by kernel_rfl
def qch_E (n : Nat) : Entry := ⟨qch_a, qch_res, fun d => qch n d.1.1 d.1.2 d.2.1 d.2.2⟩
theorem qch_ok (n : Nat) : EOK Tryd.prog 33 (qch_E n) :=
 EOK.ofS zc zd zf (tbl := qch_tbl n) (loops := qch_loops n) (an := qch_an) (old := []) (n := n) (c := qch_c) (fn := Tryd.f33) (TblOK.cons (AllE.cons (qca_ok n) AllE.nil) TblOK.nil) (by kernel_rfl) (by kernel_rfl) (by kernel_rfl) (by kernel_rfl) (fun d => by kernel_rfl) LT.nil (fun a => qch_run n a.1.1 a.1.2 a.2.1 a.2.2)
def qbp_h0 : List StSh := [⟨.normal, [2, 3, 11, 12, 13, 14, 16, 17], (.cons (.int .i64) (.cons (.sl true true yD) (.cons (.ptr 0 0 0 0) (.cons (.ptr 1 0 0 0) (.cons (.sl true true yD) (.cons (.sl false true yD) (.cons (.int .i64) (.cons (.int .i64) .nil)))))))), (.cons (.bcells 0 false 1 (.cons (.sl true true yD) (.cons (.int .i64) (.cons (.int .i64) (.cons (.sl true true yD) (.cons (.sl true true yE) .nil)))))) (.cons (.bcells 0 false 1 (.cons (.int .i64) (.cons (.int .i64) (.cons (.int .i64) .nil)))) .nil))⟩]
def qbp_o0 : List StSh := [⟨.ret, [8, 9, 10], (.cons (.sl false true yD) (.cons (.sl false false (.int .i64)) (.cons (.int .i64) .nil))), (.cons (.bcells 0 false 1 (.cons (.sl true true yD) (.cons (.int .i64) (.cons (.int .i64) (.cons (.sl true true yD) (.cons (.sl true true yE) .nil)))))) (.cons (.bcells 0 false 1 (.cons (.int .i64) (.cons (.int .i64) (.cons (.int .i64) .nil)))) .nil))⟩, ⟨.exit 0, [2, 3, 11, 12, 14, 16], (.cons (.int .i64) (.cons (.sl true true yD) (.cons (.ptr 0 0 0 0) (.cons (.ptr 1 0 0 0) (.cons (.sl false true yD) (.cons (.int .i64) .nil)))))), (.cons (.bcells 0 false 1 (.cons (.sl true true yD) (.cons (.int .i64) (.cons (.int .i64) (.cons (.sl true true yD) (.cons (.sl true true yE) .nil)))))) (.cons (.bcells 0 false 1 (.cons (.int .i64) (.cons (.int .i64) (.cons (.int .i64) .nil)))) .nil))⟩]
def qbp_L0 (n : Nat) : LEntry := ⟨qbp_h0, qbp_o0, qbp_W0 n⟩
def qbp_res : List StSh := [⟨.ret, [0], (.cons (.tup (.cons (.sl false true yD) (.cons (.sl false false (.int .i64)) (.cons (.int .i64) .nil)))) .nil), .nil⟩]
def qbp_tbl (n : Nat) : FuncId → List Entry := fun f => bif Nat.beq f 21 then [qbo_E n] else bif Nat.beq f 33 then [qch_E n] else []
def qbp_loops (n : Nat) : Nat → Option LEntry := fun f => bif Nat.beq f 0 then some (qbp_L0 n) else none
theorem qbp_r0 (n : Nat) (t2 : Int) (t3 : DA) (t13 : DA) (t14 : DA) (t16 : Int) (t17 : Int) (m0 : DA) (m0_1 : Int) (m0_2 : Int) (m0_3 : DA) (m0_4 : DB) (m1 : Int) (m1_1 : Int) (m1_2 : Int) : roundK (real _) tab (qbp_tbl n) (qbp_loops n) qbp_an [] qbp_l0 0 [2, 3, 11, 12, 13, 14, 16, 17] qbp_h0 qbp_o0 ((t2, (t3, (t13, (t14, (t16, t17))))), ((m0, (m0_1, (m0_2, (m0_3, m0_4)))), (m1, (m1_1, m1_2)))) some = qbp_B0 n t2 t3 t13 t14 t16 t17 m0 m0_1 m0_2 m0_3 m0_4 m1 m1_1 m1_2 := by kernel_rfl
theorem qbp_f0 (n : Nat) : LoopFact tab (qbp_tbl n) (qbp_loops n) qbp_an [] n 0 qbp_l0 (qbp_L0 n) := ⟨[2, 3, 11, 12, 13, 14, 16, 17], (fun s => qbp_B0 n s.1.1 s.1.2.1 s.1.2.2.1 s.1.2.2.2.1 s.1.2.2.2.2.1 s.1.2.2.2.2.2 s.2.1.1 s.2.1.2.1 s.2.1.2.2.1 s.2.1.2.2.2.1 s.2.1.2.2.2.2 s.2.2.1 s.2.2.2.1 s.2.2.2.2), by kernel_rfl, by kernel_rfl, fun s => rfl, fun s => qbp_r0 n s.1.1 s.1.2.1 s.1.2.2.1 s.1.2.2.2.1 s.1.2.2.2.2.1 s.1.2.2.2.2.2 s.2.1.1 s.2.1.2.1 s.2.1.2.2.1 s.2.1.2.2.2.1 s.2.1.2.2.2.2 s.2.2.1 s.2.2.2.1 s.2.2.2.2⟩
theorem qbp_run (n : Nat) (t0 : DH) (t0_1 : DI) (t0_2 : DJ) (t0_3 : DC) (t0_4 : DD) (t1 : Int) (t2 : Int) (t3 : DA) : funDS (real _) tab (qbp_tbl n) (qbp_loops n) qbp_an Tryd.f17 0 qbp_a qbp_res ((t0, (t0_1, (t0_2, (t0_3, t0_4)))), (t1, (t2, t3))) some = qbp n t0 t0_1 t0_2 t0_3 t0_4 t1 t2 t3 := by kernel_rfl
def qbp_E (n : Nat) : Entry := ⟨qbp_a, qbp_res, fun d => qbp n d.1.1 d.1.2.1 d.1.2.2.1 d.1.2.2.2.1 d.1.2.2.2.2 d.2.1 d.2.2.1 d.2.2.2⟩
theorem qbp_ok (n : Nat) : EOK Tryd.prog 17 (qbp_E n) :=
 EOK.ofS zc zd zf (tbl := qbp_tbl n) (loops := qbp_loops n) (an := qbp_an) (old := []) (n := n) (c := qbp_c) (fn := Tryd.f17) (TblOK.cons (AllE.cons (qbo_ok n) AllE.nil) (TblOK.cons (AllE.cons (qch_ok n) AllE.nil) TblOK.nil)) (by kernel_rfl) (by kernel_rfl) (by kernel_rfl) (by kernel_rfl) (fun d => by kernel_rfl) (LT.cons (by kernel_rfl) (qbp_f0 n) LT.nil) (fun a => qbp_run n a.1.1 a.1.2.1 a.1.2.2.1 a.1.2.2.2.1 a.1.2.2.2.2 a.2.1 a.2.2.1 a.2.2.2)
def law08FlowSteps_h0 : List StSh := [⟨.normal, [11, 14, 16], (.cons (.sl false false (.int .i64)) (.cons (.sl false false (.int .i64)) (.cons (.int .i64) .nil))), .nil⟩]
def law08FlowSteps_o0 : List StSh := [⟨.ret, [8], (.cons .bool .nil), .nil⟩, ⟨.exit 0, [], .nil, .nil⟩]
def law08FlowSteps_L0 (n : Nat) : LEntry := ⟨law08FlowSteps_h0, law08FlowSteps_o0, law08FlowSteps_W0 n⟩
def law08FlowSteps_res : List StSh := [⟨.ret, [0], (.cons .bool .nil), .nil⟩]
def law08FlowSteps_tbl (n : Nat) : FuncId → List Entry := fun f => bif Nat.beq f 12 then [qaz_E n] else bif Nat.beq f 13 then [qaf_E n] else bif Nat.beq f 14 then [qcd_E n] else bif Nat.beq f 15 then [qat_E n] else bif Nat.beq f 16 then [qba_E n] else bif Nat.beq f 17 then [qbp_E n] else []
def law08FlowSteps_loops (n : Nat) : Nat → Option LEntry := fun f => bif Nat.beq f 0 then some (law08FlowSteps_L0 n) else none
theorem zfe (n : Nat) (t11 : DC) (t14 : DC) (t16 : Int) : roundK (real _) tab (law08FlowSteps_tbl n) (law08FlowSteps_loops n) law08FlowSteps_an [] law08FlowSteps_l0 0 [11, 14, 16] law08FlowSteps_h0 law08FlowSteps_o0 (t11, (t14, t16)) some = law08FlowSteps_B0 n t11 t14 t16 := by kernel_rfl
theorem zeI (n : Nat) : LoopFact tab (law08FlowSteps_tbl n) (law08FlowSteps_loops n) law08FlowSteps_an [] n 0 law08FlowSteps_l0 (law08FlowSteps_L0 n) := ⟨[11, 14, 16], (fun s => law08FlowSteps_B0 n s.1 s.2.1 s.2.2), by kernel_rfl, by kernel_rfl, fun s => rfl, fun s => zfe n s.1 s.2.1 s.2.2⟩
theorem zeC (n : Nat) (t0 : DH) (t0_1 : DI) (t0_2 : DJ) (t0_3 : DC) (t0_4 : DD) (t1 : Int) (t2 : Int) (t3 : DA) : funDS (real _) tab (law08FlowSteps_tbl n) (law08FlowSteps_loops n) law08FlowSteps_an Tryd.f3 0 law08FlowSteps_a law08FlowSteps_res ((t0, (t0_1, (t0_2, (t0_3, t0_4)))), (t1, (t2, t3))) some = law08FlowSteps n t0 t0_1 t0_2 t0_3 t0_4 t1 t2 t3 := by kernel_rfl
def law08FlowSteps_E (n : Nat) : Entry := ⟨law08FlowSteps_a, law08FlowSteps_res, fun d => law08FlowSteps n d.1.1 d.1.2.1 d.1.2.2.1 d.1.2.2.2.1 d.1.2.2.2.2 d.2.1 d.2.2.1 d.2.2.2⟩
theorem zfr (n : Nat) : EOK Tryd.prog 3 (law08FlowSteps_E n) :=
 EOK.ofS zc zd zf (tbl := law08FlowSteps_tbl n) (loops := law08FlowSteps_loops n) (an := law08FlowSteps_an) (old := []) (n := n) (c := law08FlowSteps_c) (fn := Tryd.f3) (TblOK.cons (AllE.cons (qaz_ok n) AllE.nil) (TblOK.cons (AllE.cons (qaf_ok n) AllE.nil) (TblOK.cons (AllE.cons (qcd_ok n) AllE.nil) (TblOK.cons (AllE.cons (qat_ok n) AllE.nil) (TblOK.cons (AllE.cons (qba_ok n) AllE.nil) (TblOK.cons (AllE.cons (qbp_ok n) AllE.nil) TblOK.nil)))))) (by kernel_rfl) (by kernel_rfl) (by kernel_rfl) (by kernel_rfl) (fun d => by kernel_rfl) (LT.cons (by kernel_rfl) (zeI n) LT.nil) (fun a => zeC n a.1.1 a.1.2.1 a.1.2.2.1 a.1.2.2.2.1 a.1.2.2.2.2 a.2.1 a.2.2.1 a.2.2.2)
def law08FlowBelow_an : Ann := { live := [(0, [1, 2, 3, 4, 5, 11])] }
def law08FlowBelow_c : Code := (match Tryd.f5.body with | some c => c | none => .skip)
def law08FlowBelow_l0 : Code := (match assoc 0 (loopsIn law08FlowBelow_c 0) with | some c => c | none => .skip)
def law08FlowBelow_a : StSh := ⟨.normal, [0, 1, 2, 3, 4], (.cons (.agg (.cons (.sl true false yA) (.cons (.sl true true yB) (.cons (.sl true true yC) (.cons (.sl true false (.int .u64)) (.cons (.sl true false .str) .nil)))))) (.cons (.int .i64) (.cons (.int .i64) (.cons (.sl true true yD) (.cons (.sl true true yD) .nil))))), .nil⟩
def qbe_an : Ann := { live := [(0, [0, 1, 5])] }
def qbe_c : Code := (match Tryd.f20.body with | some c => c | none => .skip)
def qbe_l0 : Code := (match assoc 0 (loopsIn qbe_c 0) with | some c => c | none => .skip)
def qbe_a : StSh := ⟨.normal, [0, 1], (.cons (.sl true true yD) (.cons (.sl true true yD) .nil)), .nil⟩
def qbe_h0 : List StSh := [⟨.normal, [0, 1, 5], (.cons (.sl true true yD) (.cons (.sl true true yD) (.cons (.int .i64) .nil))), .nil⟩]
def qbe_o0 : List StSh := [⟨.ret, [4], (.cons .bool .nil), .nil⟩, ⟨.exit 0, [], .nil, .nil⟩]
def qbe_L0 (n : Nat) : LEntry := ⟨qbe_h0, qbe_o0, qbe_W0 n⟩
def qbe_res : List StSh := [⟨.ret, [0], (.cons .bool .nil), .nil⟩]
def qbe_tbl (n : Nat) : FuncId → List Entry := fun f => bif Nat.beq f 33 then [qch_E n] else []
def qbe_loops (n : Nat) : Nat → Option LEntry := fun f => bif Nat.beq f 0 then some (qbe_L0 n) else none
theorem qbe_r0 (n : Nat) (a_0 : DA) (b_1 : DA) (i_5 : Int) : roundK (real _) tab (qbe_tbl n) (qbe_loops n) qbe_an [] qbe_l0 0 [0, 1, 5] qbe_h0 qbe_o0 (a_0, (b_1, i_5)) some = qbe_B0 n a_0 b_1 i_5 := by kernel_rfl
theorem qbe_f0 (n : Nat) : LoopFact tab (qbe_tbl n) (qbe_loops n) qbe_an [] n 0 qbe_l0 (qbe_L0 n) := ⟨[0, 1, 5], (fun s => qbe_B0 n s.1 s.2.1 s.2.2), by kernel_rfl, by kernel_rfl, fun s => rfl, fun s => qbe_r0 n s.1 s.2.1 s.2.2⟩
theorem qbe_run (n : Nat) (a_0 : DA) (b_1 : DA) : funDS (real _) tab (qbe_tbl n) (qbe_loops n) qbe_an Tryd.f20 0 qbe_a qbe_res (a_0, b_1) some = qbe n a_0 b_1 := by kernel_rfl
def qbe_E (n : Nat) : Entry := ⟨qbe_a, qbe_res, fun d => qbe n d.1 d.2⟩
theorem qbe_ok (n : Nat) : EOK Tryd.prog 20 (qbe_E n) :=
 EOK.ofS zc zd zf (tbl := qbe_tbl n) (loops := qbe_loops n) (an := qbe_an) (old := []) (n := n) (c := qbe_c) (fn := Tryd.f20) (TblOK.cons (AllE.cons (qch_ok n) AllE.nil) TblOK.nil) (by kernel_rfl) (by kernel_rfl) (by kernel_rfl) (by kernel_rfl) (fun d => by kernel_rfl) (LT.cons (by kernel_rfl) (qbe_f0 n) LT.nil) (fun a => qbe_run n a.1 a.2)
def law08FlowBelow_h0 : List StSh := [⟨.normal, [1, 2, 3, 4, 5, 11], (.cons (.int .i64) (.cons (.int .i64) (.cons (.sl true true yD) (.cons (.sl true true yD) (.cons (.ptr 0 0 0 0) (.cons (.int .i64) .nil)))))), (.cons (.bcells 0 false 1 (.cons (.sl true false yA) (.cons (.sl true true yB) (.cons (.sl true true yC) (.cons (.sl true false (.int .u64)) (.cons (.sl true false .str) .nil)))))) .nil)⟩]
def law08FlowBelow_o0 : List StSh := [⟨.ret, [10], (.cons .bool .nil), (.cons (.bcells 0 false 1 (.cons (.sl true false yA) (.cons (.sl true true yB) (.cons (.sl true true yC) (.cons (.sl true false (.int .u64)) (.cons (.sl true false .str) .nil)))))) .nil)⟩, ⟨.exit 0, [1, 2, 3, 4, 5], (.cons (.int .i64) (.cons (.int .i64) (.cons (.sl true true yD) (.cons (.sl true true yD) (.cons (.ptr 0 0 0 0) .nil))))), (.cons (.bcells 0 false 1 (.cons (.sl true false yA) (.cons (.sl true true yB) (.cons (.sl true true yC) (.cons (.sl true false (.int .u64)) (.cons (.sl true false .str) .nil)))))) .nil)⟩]
def law08FlowBelow_L0 (n : Nat) : LEntry := ⟨law08FlowBelow_h0, law08FlowBelow_o0, law08FlowBelow_W0 n⟩
def law08FlowBelow_res : List StSh := [⟨.ret, [0], (.cons .bool .nil), .nil⟩]
def law08FlowBelow_tbl (n : Nat) : FuncId → List Entry := fun f => bif Nat.beq f 12 then [qaz_E n] else bif Nat.beq f 13 then [qaf_E n] else bif Nat.beq f 20 then [qbe_E n] else bif Nat.beq f 14 then [qcd_E n] else []
def law08FlowBelow_loops (n : Nat) : Nat → Option LEntry := fun f => bif Nat.beq f 0 then some (law08FlowBelow_L0 n) else none
theorem zfu (n : Nat) (t1 : Int) (t2 : Int) (t3 : DA) (t4 : DA) (t11 : Int) (m0 : DH) (m0_1 : DI) (m0_2 : DJ) (m0_3 : DC) (m0_4 : DD) : roundK (real _) tab (law08FlowBelow_tbl n) (law08FlowBelow_loops n) law08FlowBelow_an [] law08FlowBelow_l0 0 [1, 2, 3, 4, 5, 11] law08FlowBelow_h0 law08FlowBelow_o0 ((t1, (t2, (t3, (t4, t11)))), (m0, (m0_1, (m0_2, (m0_3, m0_4))))) some = law08FlowBelow_B0 n t1 t2 t3 t4 t11 m0 m0_1 m0_2 m0_3 m0_4 := by kernel_rfl
theorem zeU (n : Nat) : LoopFact tab (law08FlowBelow_tbl n) (law08FlowBelow_loops n) law08FlowBelow_an [] n 0 law08FlowBelow_l0 (law08FlowBelow_L0 n) := ⟨[1, 2, 3, 4, 5, 11], (fun s => law08FlowBelow_B0 n s.1.1 s.1.2.1 s.1.2.2.1 s.1.2.2.2.1 s.1.2.2.2.2 s.2.1 s.2.2.1 s.2.2.2.1 s.2.2.2.2.1 s.2.2.2.2.2), by kernel_rfl, by kernel_rfl, fun s => rfl, fun s => zfu n s.1.1 s.1.2.1 s.1.2.2.1 s.1.2.2.2.1 s.1.2.2.2.2 s.2.1 s.2.2.1 s.2.2.2.1 s.2.2.2.2.1 s.2.2.2.2.2⟩
theorem zeF (n : Nat) (t0 : DH) (t0_1 : DI) (t0_2 : DJ) (t0_3 : DC) (t0_4 : DD) (t1 : Int) (t2 : Int) (t3 : DA) (t4 : DA) : funDS (real _) tab (law08FlowBelow_tbl n) (law08FlowBelow_loops n) law08FlowBelow_an Tryd.f5 0 law08FlowBelow_a law08FlowBelow_res ((t0, (t0_1, (t0_2, (t0_3, t0_4)))), (t1, (t2, (t3, t4)))) some = law08FlowBelow n t0 t0_1 t0_2 t0_3 t0_4 t1 t2 t3 t4 := by kernel_rfl
def law08FlowBelow_E (n : Nat) : Entry := ⟨law08FlowBelow_a, law08FlowBelow_res, fun d => law08FlowBelow n d.1.1 d.1.2.1 d.1.2.2.1 d.1.2.2.2.1 d.1.2.2.2.2 d.2.1 d.2.2.1 d.2.2.2.1 d.2.2.2.2⟩
theorem zeR (n : Nat) : EOK Tryd.prog 5 (law08FlowBelow_E n) :=
 EOK.ofS zc zd zf (tbl := law08FlowBelow_tbl n) (loops := law08FlowBelow_loops n) (an := law08FlowBelow_an) (old := []) (n := n) (c := law08FlowBelow_c) (fn := Tryd.f5) (TblOK.cons (AllE.cons (qaz_ok n) AllE.nil) (TblOK.cons (AllE.cons (qaf_ok n) AllE.nil) (TblOK.cons (AllE.cons (qbe_ok n) AllE.nil) (TblOK.cons (AllE.cons (qcd_ok n) AllE.nil) TblOK.nil)))) (by kernel_rfl) (by kernel_rfl) (by kernel_rfl) (by kernel_rfl) (fun d => by kernel_rfl) (LT.cons (by kernel_rfl) (zeU n) LT.nil) (fun a => zeF n a.1.1 a.1.2.1 a.1.2.2.1 a.1.2.2.2.1 a.1.2.2.2.2 a.2.1 a.2.2.1 a.2.2.2.1 a.2.2.2.2)
def law08FlowHeights_an : Ann := {}
def law08FlowHeights_c : Code := (match Tryd.f6.body with | some c => c | none => .skip)
def law08FlowHeights_a : StSh := ⟨.normal, [0, 1, 2, 3], (.cons (.agg (.cons (.sl true false yA) (.cons (.sl true true yB) (.cons (.sl true true yC) (.cons (.sl true false (.int .u64)) (.cons (.sl true false .str) .nil)))))) (.cons (.int .i64) (.cons (.int .i64) (.cons (.sl true true yD) .nil)))), .nil⟩
def law08FlowHeights_res : List StSh := [⟨.ret, [0], (.cons .bool .nil), .nil⟩]
def law08FlowHeights_tbl (n : Nat) : FuncId → List Entry := fun f => bif Nat.beq f 12 then [qaz_E n] else bif Nat.beq f 13 then [qaf_E n] else bif Nat.beq f 14 then [qcd_E n] else bif Nat.beq f 21 then [qbo_E n] else bif Nat.beq f 15 then [qat_E n] else []
def law08FlowHeights_loops (n : Nat) : Nat → Option LEntry := fun f => none
theorem zdf (n : Nat) (t0 : DH) (t0_1 : DI) (t0_2 : DJ) (t0_3 : DC) (t0_4 : DD) (t1 : Int) (t2 : Int) (t3 : DA) : funDS (real _) tab (law08FlowHeights_tbl n) (law08FlowHeights_loops n) law08FlowHeights_an Tryd.f6 0 law08FlowHeights_a law08FlowHeights_res ((t0, (t0_1, (t0_2, (t0_3, t0_4)))), (t1, (t2, t3))) some = law08FlowHeights n t0 t0_1 t0_2 t0_3 t0_4 t1 t2 t3 := by kernel_rfl
def law08FlowHeights_E (n : Nat) : Entry := ⟨law08FlowHeights_a, law08FlowHeights_res, fun d => law08FlowHeights n d.1.1 d.1.2.1 d.1.2.2.1 d.1.2.2.2.1 d.1.2.2.2.2 d.2.1 d.2.2.1 d.2.2.2⟩
theorem zdO (n : Nat) : EOK Tryd.prog 6 (law08FlowHeights_E n) :=
 EOK.ofS zc zd zf (tbl := law08FlowHeights_tbl n) (loops := law08FlowHeights_loops n) (an := law08FlowHeights_an) (old := []) (n := n) (c := law08FlowHeights_c) (fn := Tryd.f6) (TblOK.cons (AllE.cons (qaz_ok n) AllE.nil) (TblOK.cons (AllE.cons (qaf_ok n) AllE.nil) (TblOK.cons (AllE.cons (qcd_ok n) AllE.nil) (TblOK.cons (AllE.cons (qbo_ok n) AllE.nil) (TblOK.cons (AllE.cons (qat_ok n) AllE.nil) TblOK.nil))))) (by kernel_rfl) (by kernel_rfl) (by kernel_rfl) (by kernel_rfl) (fun d => by kernel_rfl) LT.nil (fun a => zdf n a.1.1 a.1.2.1 a.1.2.2.1 a.1.2.2.2.1 a.1.2.2.2.2 a.2.1 a.2.2.1 a.2.2.2)
def law10JudgeRight_an : Ann := { live := [(0, [1, 2, 5])] }
def law10JudgeRight_c : Code := (match Tryd.f8.body with | some c => c | none => .skip)
def law10JudgeRight_l0 : Code := (match assoc 0 (loopsIn law10JudgeRight_c 0) with | some c => c | none => .skip)
def law10JudgeRight_a : StSh := ⟨.normal, [0, 1], (.cons (.agg (.cons (.sl true false yA) (.cons (.sl true true yB) (.cons (.sl true true yC) (.cons (.sl true false (.int .u64)) (.cons (.sl true false .str) .nil)))))) (.cons (.sl true false yG) .nil)), .nil⟩
def qah_an : Ann := {}
def qah_c : Code := (match Tryd.f22.body with | some c => c | none => .skip)
def qah_a : StSh := ⟨.normal, [], .nil, .nil⟩
def judgeRight_an : Ann := { live := [(0, [2, 19, 20, 21]), (2, [2, 5, 6, 19, 20, 21, 52, 53])] }
def judgeRight_c : Code := (match Tryd.f23.body with | some c => c | none => .skip)
def judgeRight_l0 : Code := (match assoc 0 (loopsIn judgeRight_c 0) with | some c => c | none => .skip)
def judgeRight_l2 : Code := (match assoc 2 (loopsIn judgeRight_c 0) with | some c => c | none => .skip)
def judgeRight_a : StSh := ⟨.normal, [0, 1], (.cons (.agg (.cons (.sl true false yA) (.cons (.sl true true yB) (.cons (.sl true true yC) (.cons (.sl true false (.int .u64)) (.cons (.sl true false .str) .nil)))))) (.cons (.sl true false yG) .nil)), .nil⟩
def qby_an : Ann := {}
def qby_c : Code := (match Tryd.f34.body with | some c => c | none => .skip)
def qby_a : StSh := ⟨.normal, [0], (.cons (.agg (.cons (.sl true false yA) (.cons (.sl true true yB) (.cons (.sl true true yC) (.cons (.sl true false (.int .u64)) (.cons (.sl true false .str) .nil)))))) .nil), .nil⟩
def qby_res : List StSh := [⟨.ret, [0], (.cons .bool .nil), .nil⟩]
def qby_tbl (n : Nat) : FuncId → List Entry := fun f => bif Nat.beq f 28 then [qbv_E n] else []
def qby_loops (n : Nat) : Nat → Option LEntry := fun f => none
theorem qby_run (n : Nat) (m_0 : DH) (m_0_1 : DI) (m_0_2 : DJ) (m_0_3 : DC) (m_0_4 : DD) : funDS (real _) tab (qby_tbl n) (qby_loops n) qby_an Tryd.f34 0 qby_a qby_res (m_0, (m_0_1, (m_0_2, (m_0_3, m_0_4)))) some = qby n m_0 m_0_1 m_0_2 m_0_3 m_0_4 := by kernel_rfl
def qby_E (n : Nat) : Entry := ⟨qby_a, qby_res, fun d => qby n d.1 d.2.1 d.2.2.1 d.2.2.2.1 d.2.2.2.2⟩
theorem qby_ok (n : Nat) : EOK Tryd.prog 34 (qby_E n) :=
 EOK.ofS zc zd zf (tbl := qby_tbl n) (loops := qby_loops n) (an := qby_an) (old := []) (n := n) (c := qby_c) (fn := Tryd.f34) (TblOK.cons (AllE.cons (qbv_ok n) AllE.nil) TblOK.nil) (by kernel_rfl) (by kernel_rfl) (by kernel_rfl) (by kernel_rfl) (fun d => by kernel_rfl) LT.nil (fun a => qby_run n a.1 a.2.1 a.2.2.1 a.2.2.2.1 a.2.2.2.2)
def qbz_an : Ann := {}
def qbz_c : Code := (match Tryd.f35.body with | some c => c | none => .skip)
def qbz_a : StSh := ⟨.normal, [0, 1, 2, 3], (.cons (.agg (.cons (.sl true false yA) (.cons (.sl true true yB) (.cons (.sl true true yC) (.cons (.sl true false (.int .u64)) (.cons (.sl true false .str) .nil)))))) (.cons (.int .i64) (.cons (.int .i64) (.cons (.sl true true yH) .nil)))), .nil⟩
def qp_an : Ann := {}
def qp_c : Code := (match Tryd.f62.body with | some c => c | none => .skip)
def qp_a : StSh := ⟨.normal, [0, 1], (.cons (.sl true false (.int .i64)) (.cons (.fn 61 .nil (.cons (.ptr 0 0 0 0) (.cons (.ptr 1 0 0 0) .nil))) .nil)), (.cons (.bcells 0 false 1 (.cons (.sl true true yH) .nil)) (.cons (.bcells 0 false 1 (.cons (.sl true true yD) .nil)) .nil))⟩
def qag_an : Ann := { live := [(0, [0, 1, 7, 8])] }
def qag_c : Code := (match Tryd.f80.body with | some c => c | none => .skip)
def qag_l0 : Code := (match assoc 0 (loopsIn qag_c 0) with | some c => c | none => .skip)
def qag_a : StSh := ⟨.normal, [0, 1], (.cons (.sl true false (.int .i64)) (.cons (.fn 61 .nil (.cons (.ptr 0 0 0 0) (.cons (.ptr 1 0 0 0) .nil))) .nil)), (.cons (.bcells 0 false 1 (.cons (.sl true true yH) .nil)) (.cons (.bcells 0 false 1 (.cons (.sl true true yD) .nil)) .nil))⟩
def qbr_an : Ann := {}
def qbr_c : Code := (match Tryd.f61.body with | some c => c | none => .skip)
def qbr_a : StSh := ⟨.normal, [0, 1, 2], (.cons (.int .i64) (.cons (.ptr 0 0 0 0) (.cons (.ptr 1 0 0 0) .nil))), (.cons (.bcells 0 false 1 (.cons (.sl true true yH) .nil)) (.cons (.bcells 0 false 1 (.cons (.sl true true yD) .nil)) .nil))⟩
def judgeBelow_an : Ann := {}
def judgeBelow_c : Code := (match Tryd.f25.body with | some c => c | none => .skip)
def judgeBelow_a : StSh := ⟨.normal, [0, 1], (.cons (.sl true true yD) (.cons (.sl true true yD) .nil)), .nil⟩
def qaa_an : Ann := { live := [(0, [1, 2, 15, 16, 17])] }
def qaa_c : Code := (match Tryd.f36.body with | some c => c | none => .skip)
def qaa_l0 : Code := (match assoc 0 (loopsIn qaa_c 0) with | some c => c | none => .skip)
def qaa_a : StSh := ⟨.normal, [0, 1, 2], (.cons (.sl true true yD) (.cons (.sl true true yD) (.cons (.fn 37 .nil .nil) .nil))), .nil⟩
def qaa_h0 : List StSh := [⟨.normal, [1, 2, 15, 16, 17], (.cons (.sl true true yD) (.cons (.fn 37 .nil .nil) (.cons (.sl true true yD) (.cons (.int .i64) (.cons (.int .i64) .nil))))), .nil⟩]
def qaa_o0 : List StSh := [⟨.ret, [6], (.cons .bool .nil), (.cons (.bcells 0 false 1 (.cons (.int .i64) (.cons (.int .i64) .nil))) (.cons (.bcells 0 false 1 (.cons (.int .i64) (.cons (.int .i64) .nil))) .nil))⟩, ⟨.exit 0, [], .nil, .nil⟩]
def qaa_L0 (n : Nat) : LEntry := ⟨qaa_h0, qaa_o0, qaa_W0 n⟩
def qaa_res : List StSh := [⟨.ret, [0], (.cons .bool .nil), .nil⟩]
def qaa_tbl (n : Nat) : FuncId → List Entry := fun f => bif Nat.beq f 37 then [qcp_E n] else []
def qaa_loops (n : Nat) : Nat → Option LEntry := fun f => bif Nat.beq f 0 then some (qaa_L0 n) else none
theorem qaa_r0 (n : Nat) (s2_1 : DA) (t15 : DA) (t16 : Int) (t17 : Int) : roundK (real _) tab (qaa_tbl n) (qaa_loops n) qaa_an [] qaa_l0 0 [1, 2, 15, 16, 17] qaa_h0 qaa_o0 (s2_1, (t15, (t16, t17))) some = qaa_B0 n s2_1 t15 t16 t17 := by kernel_rfl
theorem qaa_f0 (n : Nat) : LoopFact tab (qaa_tbl n) (qaa_loops n) qaa_an [] n 0 qaa_l0 (qaa_L0 n) := ⟨[1, 2, 15, 16, 17], (fun s => qaa_B0 n s.1 s.2.1 s.2.2.1 s.2.2.2), by kernel_rfl, by kernel_rfl, fun s => rfl, fun s => qaa_r0 n s.1 s.2.1 s.2.2.1 s.2.2.2⟩
theorem qaa_run (n : Nat) (s1_0 : DA) (s2_1 : DA) : funDS (real _) tab (qaa_tbl n) (qaa_loops n) qaa_an Tryd.f36 0 qaa_a qaa_res (s1_0, s2_1) some = qaa n s1_0 s2_1 := by kernel_rfl
def qaa_E (n : Nat) : Entry := ⟨qaa_a, qaa_res, fun d => qaa n d.1 d.2⟩
theorem qaa_ok (n : Nat) : EOK Tryd.prog 36 (qaa_E n) :=
 EOK.ofS zc zd zf (tbl := qaa_tbl n) (loops := qaa_loops n) (an := qaa_an) (old := []) (n := n) (c := qaa_c) (fn := Tryd.f36) (TblOK.cons (AllE.cons (qcp_ok n) AllE.nil) TblOK.nil) (by kernel_rfl) (by kernel_rfl) (by kernel_rfl) (by kernel_rfl) (fun d => by kernel_rfl) (LT.cons (by kernel_rfl) (qaa_f0 n) LT.nil) (fun a => qaa_run n a.1 a.2)
def judgeBelow_res : List StSh := [⟨.ret, [0], (.cons .bool .nil), .nil⟩]
def judgeBelow_tbl (n : Nat) : FuncId → List Entry := fun f => bif Nat.beq f 36 then [qaa_E n] else []
def judgeBelow_loops (n : Nat) : Nat → Option LEntry := fun f => none
theorem ziA (n : Nat) (a_0 : DA) (b_1 : DA) : funDS (real _) tab (judgeBelow_tbl n) (judgeBelow_loops n) judgeBelow_an Tryd.f25 0 judgeBelow_a judgeBelow_res (a_0, b_1) some = judgeBelow n a_0 b_1 := by kernel_rfl
def judgeBelow_E (n : Nat) : Entry := ⟨judgeBelow_a, judgeBelow_res, fun d => judgeBelow n d.1 d.2⟩
theorem zdQ (n : Nat) : EOK Tryd.prog 25 (judgeBelow_E n) :=
 EOK.ofS zc zd zf (tbl := judgeBelow_tbl n) (loops := judgeBelow_loops n) (an := judgeBelow_an) (old := []) (n := n) (c := judgeBelow_c) (fn := Tryd.f25) (TblOK.cons (AllE.cons (qaa_ok n) AllE.nil) TblOK.nil) (by kernel_rfl) (by kernel_rfl) (by kernel_rfl) (by kernel_rfl) (fun d => by kernel_rfl) LT.nil (fun a => ziA n a.1 a.2)
def qbr_res : List StSh := [⟨.ret, [0], (.cons .bool .nil), (.cons (.bcells 0 false 1 (.cons (.sl true true yH) .nil)) (.cons (.bcells 0 false 1 (.cons (.sl true true yD) .nil)) .nil))⟩]
def qbr_tbl (n : Nat) : FuncId → List Entry := fun f => bif Nat.beq f 25 then [judgeBelow_E n] else []
def qbr_loops (n : Nat) : Nat → Option LEntry := fun f => none
theorem qbr_run (n : Nat) (n_0 : Int) (m0 : DL) (m1 : DA) : funDS (real _) tab (qbr_tbl n) (qbr_loops n) qbr_an Tryd.f61 2 qbr_a qbr_res (n_0, (m0, m1)) some = qbr n n_0 m0 m1 := by kernel_rfl
def qbr_E (n : Nat) : Entry := ⟨qbr_a, qbr_res, fun d => qbr n d.1 d.2.1 d.2.2⟩
theorem qbr_ok (n : Nat) : EOK Tryd.prog 61 (qbr_E n) :=
 EOK.ofS zc zd zf (tbl := qbr_tbl n) (loops := qbr_loops n) (an := qbr_an) (old := [some true, some true]) (n := n) (c := qbr_c) (fn := Tryd.f61) (TblOK.cons (AllE.cons (zdQ n) AllE.nil) TblOK.nil) (by kernel_rfl) (by kernel_rfl) (by kernel_rfl) (by kernel_rfl) (fun d => by kernel_rfl) LT.nil (fun a => qbr_run n a.1 a.2.1 a.2.2)
def qag_h0 : List StSh := [⟨.normal, [0, 1, 7, 8], (.cons (.sl true false (.int .i64)) (.cons (.fn 61 .nil (.cons (.ptr 0 0 0 0) (.cons (.ptr 1 0 0 0) .nil))) (.cons (.int .i64) (.cons (.int .i64) .nil)))), (.cons (.bcells 0 false 1 (.cons (.sl true true yH) .nil)) (.cons (.bcells 0 false 1 (.cons (.sl true true yD) .nil)) .nil))⟩]
def qag_o0 : List StSh := [⟨.ret, [4], (.cons (.int .i64) .nil), (.cons (.bcells 0 false 1 (.cons (.sl true true yH) .nil)) (.cons (.bcells 0 false 1 (.cons (.sl true true yD) .nil)) .nil))⟩, ⟨.exit 0, [], .nil, (.cons (.bcells 0 false 1 (.cons (.sl true true yH) .nil)) (.cons (.bcells 0 false 1 (.cons (.sl true true yD) .nil)) .nil))⟩]
def qag_L0 (n : Nat) : LEntry := ⟨qag_h0, qag_o0, qag_W0 n⟩
def qag_res : List StSh := [⟨.ret, [0], (.cons (.int .i64) .nil), (.cons (.bcells 0 false 1 (.cons (.sl true true yH) .nil)) (.cons (.bcells 0 false 1 (.cons (.sl true true yD) .nil)) .nil))⟩]
def qag_tbl (n : Nat) : FuncId → List Entry := fun f => bif Nat.beq f 61 then [qbr_E n] else []
def qag_loops (n : Nat) : Nat → Option LEntry := fun f => bif Nat.beq f 0 then some (qag_L0 n) else none
theorem qag_r0 (n : Nat) (s_0 : DC) (t7 : Int) (t8 : Int) (m0 : DL) (m1 : DA) : roundK (real _) tab (qag_tbl n) (qag_loops n) qag_an [some true, some true] qag_l0 0 [0, 1, 7, 8] qag_h0 qag_o0 ((s_0, (t7, t8)), (m0, m1)) some = qag_B0 n s_0 t7 t8 m0 m1 := by kernel_rfl
theorem qag_f0 (n : Nat) : LoopFact tab (qag_tbl n) (qag_loops n) qag_an [some true, some true] n 0 qag_l0 (qag_L0 n) := ⟨[0, 1, 7, 8], (fun s => qag_B0 n s.1.1 s.1.2.1 s.1.2.2 s.2.1 s.2.2), by kernel_rfl, by kernel_rfl, fun s => rfl, fun s => qag_r0 n s.1.1 s.1.2.1 s.1.2.2 s.2.1 s.2.2⟩
theorem qag_run (n : Nat) (s_0 : DC) (m0 : DL) (m1 : DA) : funDS (real _) tab (qag_tbl n) (qag_loops n) qag_an Tryd.f80 2 qag_a qag_res (s_0, (m0, m1)) some = qag n s_0 m0 m1 := by kernel_rfl
def qag_E (n : Nat) : Entry := ⟨qag_a, qag_res, fun d => qag n d.1 d.2.1 d.2.2⟩
theorem qag_ok (n : Nat) : EOK Tryd.prog 80 (qag_E n) :=
 EOK.ofS zc zd zf (tbl := qag_tbl n) (loops := qag_loops n) (an := qag_an) (old := [some true, some true]) (n := n) (c := qag_c) (fn := Tryd.f80) (TblOK.cons (AllE.cons (qbr_ok n) AllE.nil) TblOK.nil) (by kernel_rfl) (by kernel_rfl) (by kernel_rfl) (by kernel_rfl) (fun d => by kernel_rfl) (LT.cons (by kernel_rfl) (qag_f0 n) LT.nil) (fun a => qag_run n a.1 a.2.1 a.2.2)
def qp_res : List StSh := [⟨.ret, [0], (.cons .bool .nil), (.cons (.bcells 0 false 1 (.cons (.sl true true yH) .nil)) (.cons (.bcells 0 false 1 (.cons (.sl true true yD) .nil)) .nil))⟩]
def qp_tbl (n : Nat) : FuncId → List Entry := fun f => bif Nat.beq f 80 then [qag_E n] else []
def qp_loops (n : Nat) : Nat → Option LEntry := fun f => none
theorem qp_run (n : Nat) (s_0 : DC) (m0 : DL) (m1 : DA) : funDS (real _) tab (qp_tbl n) (qp_loops n) qp_an Tryd.f62 2 qp_a qp_res (s_0, (m0, m1)) some = qp n s_0 m0 m1 := by kernel_rfl
def qp_E (n : Nat) : Entry := ⟨qp_a, qp_res, fun d => qp n d.1 d.2.1 d.2.2⟩
theorem qp_ok (n : Nat) : EOK Tryd.prog 62 (qp_E n) :=
 EOK.ofS zc zd zf (tbl := qp_tbl n) (loops := qp_loops n) (an := qp_an) (old := [some true, some true]) (n := n) (c := qp_c) (fn := Tryd.f62) (TblOK.cons (AllE.cons (qag_ok n) AllE.nil) TblOK.nil) (by kernel_rfl) (by kernel_rfl) (by kernel_rfl) (by kernel_rfl) (fun d => by kernel_rfl) LT.nil (fun a => qp_run n a.1 a.2.1 a.2.2)
def qbz_res : List StSh := [⟨.ret, [0], (.cons .bool .nil), .nil⟩]
def qbz_tbl (n : Nat) : FuncId → List Entry := fun f => bif Nat.beq f 29 then [qcl_E n] else bif Nat.beq f 62 then [qp_E n] else []
def qbz_loops (n : Nat) : Nat → Option LEntry := fun f => none
theorem qbz_run (n : Nat) (m_0 : DH) (m_0_1 : DI) (m_0_2 : DJ) (m_0_3 : DC) (m_0_4 : DD) (f_1 : Int) (pc_2 : Int) (shape_3 : DL) : funDS (real _) tab (qbz_tbl n) (qbz_loops n) qbz_an Tryd.f35 0 qbz_a qbz_res ((m_0, (m_0_1, (m_0_2, (m_0_3, m_0_4)))), (f_1, (pc_2, shape_3))) some = qbz n m_0 m_0_1 m_0_2 m_0_3 m_0_4 f_1 pc_2 shape_3 := by kernel_rfl
def qbz_E (n : Nat) : Entry := ⟨qbz_a, qbz_res, fun d => qbz n d.1.1 d.1.2.1 d.1.2.2.1 d.1.2.2.2.1 d.1.2.2.2.2 d.2.1 d.2.2.1 d.2.2.2⟩
theorem qbz_ok (n : Nat) : EOK Tryd.prog 35 (qbz_E n) :=
 EOK.ofS zc zd zf (tbl := qbz_tbl n) (loops := qbz_loops n) (an := qbz_an) (old := []) (n := n) (c := qbz_c) (fn := Tryd.f35) (TblOK.cons (AllE.cons (qcl_ok n) AllE.nil) (TblOK.cons (AllE.cons (qp_ok n) AllE.nil) TblOK.nil)) (by kernel_rfl) (by kernel_rfl) (by kernel_rfl) (by kernel_rfl) (fun d => by kernel_rfl) LT.nil (fun a => qbz_run n a.1.1 a.1.2.1 a.1.2.2.1 a.1.2.2.2.1 a.1.2.2.2.2 a.2.1 a.2.2.1 a.2.2.2)
def judgeRight_h2 : List StSh := [⟨.normal, [2, 5, 6, 19, 20, 21, 52, 53], (.cons (.ptr 0 0 0 0) (.cons (.int .i64) (.cons (.sl true true yH) (.cons (.sl true false yG) (.cons (.int .i64) (.cons (.int .i64) (.cons (.int .i64) (.cons (.int .i64) .nil)))))))), (.cons (.bcells 0 false 1 (.cons (.sl true false yA) (.cons (.sl true true yB) (.cons (.sl true true yC) (.cons (.sl true false (.int .u64)) (.cons (.sl true false .str) .nil)))))) .nil)⟩]
def judgeRight_o2 : List StSh := [⟨.ret, [4], (.cons .bool .nil), (.cons (.bcells 0 false 1 (.cons (.sl true false yA) (.cons (.sl true true yB) (.cons (.sl true true yC) (.cons (.sl true false (.int .u64)) (.cons (.sl true false .str) .nil)))))) .nil)⟩, ⟨.exit 2, [2, 19, 20, 21], (.cons (.ptr 0 0 0 0) (.cons (.sl true false yG) (.cons (.int .i64) (.cons (.int .i64) .nil)))), (.cons (.bcells 0 false 1 (.cons (.sl true false yA) (.cons (.sl true true yB) (.cons (.sl true true yC) (.cons (.sl true false (.int .u64)) (.cons (.sl true false .str) .nil)))))) .nil)⟩]
def judgeRight_L2 (n : Nat) : LEntry := ⟨judgeRight_h2, judgeRight_o2, judgeRight_W2 n⟩
def judgeRight_h0 : List StSh := [⟨.normal, [2, 19, 20, 21], (.cons (.ptr 0 0 0 0) (.cons (.sl true false yG) (.cons (.int .i64) (.cons (.int .i64) .nil)))), (.cons (.bcells 0 false 1 (.cons (.sl true false yA) (.cons (.sl true true yB) (.cons (.sl true true yC) (.cons (.sl true false (.int .u64)) (.cons (.sl true false .str) .nil)))))) .nil)⟩]
def judgeRight_o0 : List StSh := [⟨.ret, [4], (.cons .bool .nil), (.cons (.bcells 0 false 1 (.cons (.sl true false yA) (.cons (.sl true true yB) (.cons (.sl true true yC) (.cons (.sl true false (.int .u64)) (.cons (.sl true false .str) .nil)))))) .nil)⟩, ⟨.exit 0, [], .nil, (.cons (.bcells 0 false 1 (.cons (.sl true false yA) (.cons (.sl true true yB) (.cons (.sl true true yC) (.cons (.sl true false (.int .u64)) (.cons (.sl true false .str) .nil)))))) .nil)⟩]
def judgeRight_L0 (n : Nat) : LEntry := ⟨judgeRight_h0, judgeRight_o0, judgeRight_W0 n⟩
def judgeRight_res : List StSh := [⟨.ret, [0], (.cons .bool .nil), .nil⟩]
def judgeRight_tbl (n : Nat) : FuncId → List Entry := fun f => bif Nat.beq f 34 then [qby_E n] else bif Nat.beq f 35 then [qbz_E n] else []
def judgeRight_loops (n : Nat) : Nat → Option LEntry := fun f => bif Nat.beq f 2 then some (judgeRight_L2 n) else bif Nat.beq f 0 then some (judgeRight_L0 n) else none
theorem ziG (n : Nat) (f_5 : Int) (shape_6 : DL) (t19 : DM) (t20 : Int) (t21 : Int) (t52 : Int) (t53 : Int) (m0 : DH) (m0_1 : DI) (m0_2 : DJ) (m0_3 : DC) (m0_4 : DD) : roundK (real _) tab (judgeRight_tbl n) (judgeRight_loops n) judgeRight_an [] judgeRight_l2 2 [2, 5, 6, 19, 20, 21, 52, 53] judgeRight_h2 judgeRight_o2 ((f_5, (shape_6, (t19, (t20, (t21, (t52, t53)))))), (m0, (m0_1, (m0_2, (m0_3, m0_4))))) some = judgeRight_B2 n f_5 shape_6 t19 t20 t21 t52 t53 m0 m0_1 m0_2 m0_3 m0_4 := by kernel_rfl
theorem ziI (n : Nat) : LoopFact tab (judgeRight_tbl n) (judgeRight_loops n) judgeRight_an [] n 2 judgeRight_l2 (judgeRight_L2 n) := ⟨[2, 5, 6, 19, 20, 21, 52, 53], (fun s => judgeRight_B2 n s.1.1 s.1.2.1 s.1.2.2.1 s.1.2.2.2.1 s.1.2.2.2.2.1 s.1.2.2.2.2.2.1 s.1.2.2.2.2.2.2 s.2.1 s.2.2.1 s.2.2.2.1 s.2.2.2.2.1 s.2.2.2.2.2), by kernel_rfl, by kernel_rfl, fun s => rfl, fun s => ziG n s.1.1 s.1.2.1 s.1.2.2.1 s.1.2.2.2.1 s.1.2.2.2.2.1 s.1.2.2.2.2.2.1 s.1.2.2.2.2.2.2 s.2.1 s.2.2.1 s.2.2.2.1 s.2.2.2.2.1 s.2.2.2.2.2⟩
theorem ziM (n : Nat) (t19 : DM) (t20 : Int) (t21 : Int) (m0 : DH) (m0_1 : DI) (m0_2 : DJ) (m0_3 : DC) (m0_4 : DD) : roundK (real _) tab (judgeRight_tbl n) (judgeRight_loops n) judgeRight_an [] judgeRight_l0 0 [2, 19, 20, 21] judgeRight_h0 judgeRight_o0 ((t19, (t20, t21)), (m0, (m0_1, (m0_2, (m0_3, m0_4))))) some = judgeRight_B0 n t19 t20 t21 m0 m0_1 m0_2 m0_3 m0_4 := by kernel_rfl
theorem ziP (n : Nat) : LoopFact tab (judgeRight_tbl n) (judgeRight_loops n) judgeRight_an [] n 0 judgeRight_l0 (judgeRight_L0 n) := ⟨[2, 19, 20, 21], (fun s => judgeRight_B0 n s.1.1 s.1.2.1 s.1.2.2 s.2.1 s.2.2.1 s.2.2.2.1 s.2.2.2.2.1 s.2.2.2.2.2), by kernel_rfl, by kernel_rfl, fun s => rfl, fun s => ziM n s.1.1 s.1.2.1 s.1.2.2 s.2.1 s.2.2.1 s.2.2.2.1 s.2.2.2.2.1 s.2.2.2.2.2⟩
theorem zhl (n : Nat) (m_0 : DH) (m_0_1 : DI) (m_0_2 : DJ) (m_0_3 : DC) (m_0_4 : DD) (maps_1 : DM) : funDS (real _) tab (judgeRight_tbl n) (judgeRight_loops n) judgeRight_an Tryd.f23 0 judgeRight_a judgeRight_res ((m_0, (m_0_1, (m_0_2, (m_0_3, m_0_4)))), maps_1) some = judgeRight n m_0 m_0_1 m_0_2 m_0_3 m_0_4 maps_1 := by kernel_rfl
def judgeRight_E (n : Nat) : Entry := ⟨judgeRight_a, judgeRight_res, fun d => judgeRight n d.1.1 d.1.2.1 d.1.2.2.1 d.1.2.2.2.1 d.1.2.2.2.2 d.2⟩
theorem zcc (n : Nat) : EOK Tryd.prog 23 (judgeRight_E n) :=
 EOK.ofS zc zd zf (tbl := judgeRight_tbl n) (loops := judgeRight_loops n) (an := judgeRight_an) (old := []) (n := n) (c := judgeRight_c) (fn := Tryd.f23) (TblOK.cons (AllE.cons (qby_ok n) AllE.nil) (TblOK.cons (AllE.cons (qbz_ok n) AllE.nil) TblOK.nil)) (by kernel_rfl) (by kernel_rfl) (by kernel_rfl) (by kernel_rfl) (fun d => by kernel_rfl) (LT.cons (by kernel_rfl) (ziI n) (LT.cons (by kernel_rfl) (ziP n) LT.nil)) (fun a => zhl n a.1.1 a.1.2.1 a.1.2.2.1 a.1.2.2.2.1 a.1.2.2.2.2 a.2)
def qah_res : List StSh := [⟨.ret, [0], (.cons .bool .nil), .nil⟩]
def qah_tbl (n : Nat) : FuncId → List Entry := fun f => bif Nat.beq f 23 then [judgeRight_E n] else []
def qah_loops (n : Nat) : Nat → Option LEntry := fun f => none
theorem qah_run (n : Nat) : funDS (real _) tab (qah_tbl n) (qah_loops n) qah_an Tryd.f22 0 qah_a qah_res () some = qah n := by kernel_rfl
def qah_E (n : Nat) : Entry := ⟨qah_a, qah_res, fun d => qah n⟩
theorem qah_ok (n : Nat) : EOK Tryd.prog 22 (qah_E n) :=
 EOK.ofS zc zd zf (tbl := qah_tbl n) (loops := qah_loops n) (an := qah_an) (old := []) (n := n) (c := qah_c) (fn := Tryd.f22) (TblOK.cons (AllE.cons (zcc n) AllE.nil) TblOK.nil) (by kernel_rfl) (by kernel_rfl) (by kernel_rfl) (by kernel_rfl) (fun d => by kernel_rfl) LT.nil (fun a => qah_run n)
def law10JudgeRight_h0 : List StSh := [⟨.normal, [1, 2, 5], (.cons (.sl true false yG) (.cons (.ptr 0 0 0 0) (.cons (.int .i64) .nil))), (.cons (.bcells 0 false 1 (.cons (.sl true false yA) (.cons (.sl true true yB) (.cons (.sl true true yC) (.cons (.sl true false (.int .u64)) (.cons (.sl true false .str) .nil)))))) .nil)⟩]
def law10JudgeRight_o0 : List StSh := [⟨.ret, [4], (.cons .bool .nil), (.cons (.bcells 0 false 1 (.cons (.sl true false yA) (.cons (.sl true true yB) (.cons (.sl true true yC) (.cons (.sl true false (.int .u64)) (.cons (.sl true false .str) .nil)))))) .nil)⟩, ⟨.exit 0, [1, 2], (.cons (.sl true false yG) (.cons (.ptr 0 0 0 0) .nil)), (.cons (.bcells 0 false 1 (.cons (.sl true false yA) (.cons (.sl true true yB) (.cons (.sl true true yC) (.cons (.sl true false (.int .u64)) (.cons (.sl true false .str) .nil)))))) .nil)⟩]
def law10JudgeRight_L0 (n : Nat) : LEntry := ⟨law10JudgeRight_h0, law10JudgeRight_o0, law10JudgeRight_W0 n⟩
def qay_an : Ann := { live := [(0, [1, 2, 5]), (2, [1, 2, 5, 6, 7]), (4, [1, 2, 5, 6, 7, 8, 9, 11])] }
def qay_c : Code := (match Tryd.f24.body with | some c => c | none => .skip)
def qay_l0 : Code := (match assoc 0 (loopsIn qay_c 0) with | some c => c | none => .skip)
def qay_l2 : Code := (match assoc 2 (loopsIn qay_c 0) with | some c => c | none => .skip)
def qay_l4 : Code := (match assoc 4 (loopsIn qay_c 0) with | some c => c | none => .skip)
def qay_a : StSh := ⟨.normal, [0, 1], (.cons (.agg (.cons (.sl true false yA) (.cons (.sl true true yB) (.cons (.sl true true yC) (.cons (.sl true false (.int .u64)) (.cons (.sl true false .str) .nil)))))) (.cons (.sl true false yG) .nil)), .nil⟩
def qbq_an : Ann := {}
def qbq_c : Code := (match Tryd.f26.body with | some c => c | none => .skip)
def qbq_a : StSh := ⟨.normal, [0], (.cons (.agg (.cons (.sl true false yA) (.cons (.sl true true yB) (.cons (.sl true true yC) (.cons (.sl true false (.int .u64)) (.cons (.sl true false .str) .nil)))))) .nil), .nil⟩
def qbq_res : List StSh := [⟨.ret, [0], (.cons .bool .nil), .nil⟩]
def qbq_tbl (n : Nat) : FuncId → List Entry := fun f => bif Nat.beq f 16 then [qba_E n] else []
def qbq_loops (n : Nat) : Nat → Option LEntry := fun f => none
theorem qbq_run (n : Nat) (m_0 : DH) (m_0_1 : DI) (m_0_2 : DJ) (m_0_3 : DC) (m_0_4 : DD) : funDS (real _) tab (qbq_tbl n) (qbq_loops n) qbq_an Tryd.f26 0 qbq_a qbq_res (m_0, (m_0_1, (m_0_2, (m_0_3, m_0_4)))) some = qbq n m_0 m_0_1 m_0_2 m_0_3 m_0_4 := by kernel_rfl
def qbq_E (n : Nat) : Entry := ⟨qbq_a, qbq_res, fun d => qbq n d.1 d.2.1 d.2.2.1 d.2.2.2.1 d.2.2.2.2⟩
theorem qbq_ok (n : Nat) : EOK Tryd.prog 26 (qbq_E n) :=
 EOK.ofS zc zd zf (tbl := qbq_tbl n) (loops := qbq_loops n) (an := qbq_an) (old := []) (n := n) (c := qbq_c) (fn := Tryd.f26) (TblOK.cons (AllE.cons (qba_ok n) AllE.nil) TblOK.nil) (by kernel_rfl) (by kernel_rfl) (by kernel_rfl) (by kernel_rfl) (fun d => by kernel_rfl) LT.nil (fun a => qbq_run n a.1 a.2.1 a.2.2.1 a.2.2.2.1 a.2.2.2.2)
def qay_h4 : List StSh := [⟨.normal, [1, 2, 5, 6, 7, 8, 9, 11], (.cons (.sl true false yG) (.cons (.ptr 0 0 0 0) (.cons (.int .i64) (.cons (.sl true true yH) (.cons (.int .i64) (.cons (.sl false true yD) (.cons (.sl false false (.int .i64)) (.cons (.int .i64) .nil)))))))), (.cons (.bcells 0 false 1 (.cons (.sl true false yA) (.cons (.sl true true yB) (.cons (.sl true true yC) (.cons (.sl true false (.int .u64)) (.cons (.sl true false .str) .nil)))))) .nil)⟩]
def qay_o4 : List StSh := [⟨.ret, [4], (.cons .bool .nil), (.cons (.bcells 0 false 1 (.cons (.sl true false yA) (.cons (.sl true true yB) (.cons (.sl true true yC) (.cons (.sl true false (.int .u64)) (.cons (.sl true false .str) .nil)))))) .nil)⟩, ⟨.exit 4, [1, 2, 5, 6, 7], (.cons (.sl true false yG) (.cons (.ptr 0 0 0 0) (.cons (.int .i64) (.cons (.sl true true yH) (.cons (.int .i64) .nil))))), (.cons (.bcells 0 false 1 (.cons (.sl true false yA) (.cons (.sl true true yB) (.cons (.sl true true yC) (.cons (.sl true false (.int .u64)) (.cons (.sl true false .str) .nil)))))) .nil)⟩]
def qay_L4 (n : Nat) : LEntry := ⟨qay_h4, qay_o4, qay_W4 n⟩
def qay_h2 : List StSh := [⟨.normal, [1, 2, 5, 6, 7], (.cons (.sl true false yG) (.cons (.ptr 0 0 0 0) (.cons (.int .i64) (.cons (.sl true true yH) (.cons (.int .i64) .nil))))), (.cons (.bcells 0 false 1 (.cons (.sl true false yA) (.cons (.sl true true yB) (.cons (.sl true true yC) (.cons (.sl true false (.int .u64)) (.cons (.sl true false .str) .nil)))))) .nil)⟩]
def qay_o2 : List StSh := [⟨.ret, [4], (.cons .bool .nil), (.cons (.bcells 0 false 1 (.cons (.sl true false yA) (.cons (.sl true true yB) (.cons (.sl true true yC) (.cons (.sl true false (.int .u64)) (.cons (.sl true false .str) .nil)))))) .nil)⟩, ⟨.exit 2, [1, 2, 5], (.cons (.sl true false yG) (.cons (.ptr 0 0 0 0) (.cons (.int .i64) .nil))), (.cons (.bcells 0 false 1 (.cons (.sl true false yA) (.cons (.sl true true yB) (.cons (.sl true true yC) (.cons (.sl true false (.int .u64)) (.cons (.sl true false .str) .nil)))))) .nil)⟩]
def qay_L2 (n : Nat) : LEntry := ⟨qay_h2, qay_o2, qay_W2 n⟩
def qay_h0 : List StSh := [⟨.normal, [1, 2, 5], (.cons (.sl true false yG) (.cons (.ptr 0 0 0 0) (.cons (.int .i64) .nil))), (.cons (.bcells 0 false 1 (.cons (.sl true false yA) (.cons (.sl true true yB) (.cons (.sl true true yC) (.cons (.sl true false (.int .u64)) (.cons (.sl true false .str) .nil)))))) .nil)⟩]
def qay_o0 : List StSh := [⟨.ret, [4], (.cons .bool .nil), (.cons (.bcells 0 false 1 (.cons (.sl true false yA) (.cons (.sl true true yB) (.cons (.sl true true yC) (.cons (.sl true false (.int .u64)) (.cons (.sl true false .str) .nil)))))) .nil)⟩, ⟨.exit 0, [], .nil, (.cons (.bcells 0 false 1 (.cons (.sl true false yA) (.cons (.sl true true yB) (.cons (.sl true true yC) (.cons (.sl true false (.int .u64)) (.cons (.sl true false .str) .nil)))))) .nil)⟩]
def qay_L0 (n : Nat) : LEntry := ⟨qay_h0, qay_o0, qay_W0 n⟩
def qay_res : List StSh := [⟨.ret, [0], (.cons .bool .nil), .nil⟩]
def qay_tbl (n : Nat) : FuncId → List Entry := fun f => bif Nat.beq f 26 then [qbq_E n] else bif Nat.beq f 17 then [qbp_E n] else bif Nat.beq f 20 then [qbe_E n] else []
def qay_loops (n : Nat) : Nat → Option LEntry := fun f => bif Nat.beq f 4 then some (qay_L4 n) else bif Nat.beq f 2 then some (qay_L2 n) else bif Nat.beq f 0 then some (qay_L0 n) else none
theorem qay_r4 (n : Nat) (t1 : DM) (t5 : Int) (t6 : DL) (t7 : Int) (t8 : DA) (t9 : DC) (t11 : Int) (m0 : DH) (m0_1 : DI) (m0_2 : DJ) (m0_3 : DC) (m0_4 : DD) : roundK (real _) tab (qay_tbl n) (qay_loops n) qay_an [] qay_l4 4 [1, 2, 5, 6, 7, 8, 9, 11] qay_h4 qay_o4 ((t1, (t5, (t6, (t7, (t8, (t9, t11)))))), (m0, (m0_1, (m0_2, (m0_3, m0_4))))) some = qay_B4 n t1 t5 t6 t7 t8 t9 t11 m0 m0_1 m0_2 m0_3 m0_4 := by kernel_rfl
theorem qay_f4 (n : Nat) : LoopFact tab (qay_tbl n) (qay_loops n) qay_an [] n 4 qay_l4 (qay_L4 n) := ⟨[1, 2, 5, 6, 7, 8, 9, 11], (fun s => qay_B4 n s.1.1 s.1.2.1 s.1.2.2.1 s.1.2.2.2.1 s.1.2.2.2.2.1 s.1.2.2.2.2.2.1 s.1.2.2.2.2.2.2 s.2.1 s.2.2.1 s.2.2.2.1 s.2.2.2.2.1 s.2.2.2.2.2), by kernel_rfl, by kernel_rfl, fun s => rfl, fun s => qay_r4 n s.1.1 s.1.2.1 s.1.2.2.1 s.1.2.2.2.1 s.1.2.2.2.2.1 s.1.2.2.2.2.2.1 s.1.2.2.2.2.2.2 s.2.1 s.2.2.1 s.2.2.2.1 s.2.2.2.2.1 s.2.2.2.2.2⟩
theorem qay_r2 (n : Nat) (t1 : DM) (t5 : Int) (t6 : DL) (t7 : Int) (m0 : DH) (m0_1 : DI) (m0_2 : DJ) (m0_3 : DC) (m0_4 : DD) : roundK (real _) tab (qay_tbl n) (qay_loops n) qay_an [] qay_l2 2 [1, 2, 5, 6, 7] qay_h2 qay_o2 ((t1, (t5, (t6, t7))), (m0, (m0_1, (m0_2, (m0_3, m0_4))))) some = qay_B2 n t1 t5 t6 t7 m0 m0_1 m0_2 m0_3 m0_4 := by kernel_rfl
theorem qay_f2 (n : Nat) : LoopFact tab (qay_tbl n) (qay_loops n) qay_an [] n 2 qay_l2 (qay_L2 n) := ⟨[1, 2, 5, 6, 7], (fun s => qay_B2 n s.1.1 s.1.2.1 s.1.2.2.1 s.1.2.2.2 s.2.1 s.2.2.1 s.2.2.2.1 s.2.2.2.2.1 s.2.2.2.2.2), by kernel_rfl, by kernel_rfl, fun s => rfl, fun s => qay_r2 n s.1.1 s.1.2.1 s.1.2.2.1 s.1.2.2.2 s.2.1 s.2.2.1 s.2.2.2.1 s.2.2.2.2.1 s.2.2.2.2.2⟩
theorem qay_r0 (n : Nat) (t1 : DM) (t5 : Int) (m0 : DH) (m0_1 : DI) (m0_2 : DJ) (m0_3 : DC) (m0_4 : DD) : roundK (real _) tab (qay_tbl n) (qay_loops n) qay_an [] qay_l0 0 [1, 2, 5] qay_h0 qay_o0 ((t1, t5), (m0, (m0_1, (m0_2, (m0_3, m0_4))))) some = qay_B0 n t1 t5 m0 m0_1 m0_2 m0_3 m0_4 := by kernel_rfl
theorem qay_f0 (n : Nat) : LoopFact tab (qay_tbl n) (qay_loops n) qay_an [] n 0 qay_l0 (qay_L0 n) := ⟨[1, 2, 5], (fun s => qay_B0 n s.1.1 s.1.2 s.2.1 s.2.2.1 s.2.2.2.1 s.2.2.2.2.1 s.2.2.2.2.2), by kernel_rfl, by kernel_rfl, fun s => rfl, fun s => qay_r0 n s.1.1 s.1.2 s.2.1 s.2.2.1 s.2.2.2.1 s.2.2.2.2.1 s.2.2.2.2.2⟩
theorem qay_run (n : Nat) (t0 : DH) (t0_1 : DI) (t0_2 : DJ) (t0_3 : DC) (t0_4 : DD) (t1 : DM) : funDS (real _) tab (qay_tbl n) (qay_loops n) qay_an Tryd.f24 0 qay_a qay_res ((t0, (t0_1, (t0_2, (t0_3, t0_4)))), t1) some = qay n t0 t0_1 t0_2 t0_3 t0_4 t1 := by kernel_rfl
def qay_E (n : Nat) : Entry := ⟨qay_a, qay_res, fun d => qay n d.1.1 d.1.2.1 d.1.2.2.1 d.1.2.2.2.1 d.1.2.2.2.2 d.2⟩
theorem qay_ok (n : Nat) : EOK Tryd.prog 24 (qay_E n) :=
 EOK.ofS zc zd zf (tbl := qay_tbl n) (loops := qay_loops n) (an := qay_an) (old := []) (n := n) (c := qay_c) (fn := Tryd.f24) (TblOK.cons (AllE.cons (qbq_ok n) AllE.nil) (TblOK.cons (AllE.cons (qbp_ok n) AllE.nil) (TblOK.cons (AllE.cons (qbe_ok n) AllE.nil) TblOK.nil))) (by kernel_rfl) (by kernel_rfl) (by kernel_rfl) (by kernel_rfl) (fun d => by kernel_rfl) (LT.cons (by kernel_rfl) (qay_f4 n) (LT.cons (by kernel_rfl) (qay_f2 n) (LT.cons (by kernel_rfl) (qay_f0 n) LT.nil))) (fun a => qay_run n a.1.1 a.1.2.1 a.1.2.2.1 a.1.2.2.2.1 a.1.2.2.2.2 a.2)
def law10JudgeRight_res : List StSh := [⟨.ret, [0], (.cons .bool .nil), .nil⟩]
def law10JudgeRight_tbl (n : Nat) : FuncId → List Entry := fun f => bif Nat.beq f 12 then [qaz_E n] else bif Nat.beq f 22 then [qah_E n] else bif Nat.beq f 23 then [judgeRight_E n] else bif Nat.beq f 24 then [qay_E n] else []
def law10JudgeRight_loops (n : Nat) : Nat → Option LEntry := fun f => bif Nat.beq f 0 then some (law10JudgeRight_L0 n) else none
theorem zex (n : Nat) (maps_1 : DM) (f_5 : Int) (m0 : DH) (m0_1 : DI) (m0_2 : DJ) (m0_3 : DC) (m0_4 : DD) : roundK (real _) tab (law10JudgeRight_tbl n) (law10JudgeRight_loops n) law10JudgeRight_an [] law10JudgeRight_l0 0 [1, 2, 5] law10JudgeRight_h0 law10JudgeRight_o0 ((maps_1, f_5), (m0, (m0_1, (m0_2, (m0_3, m0_4))))) some = law10JudgeRight_B0 n maps_1 f_5 m0 m0_1 m0_2 m0_3 m0_4 := by kernel_rfl
theorem zek (n : Nat) : LoopFact tab (law10JudgeRight_tbl n) (law10JudgeRight_loops n) law10JudgeRight_an [] n 0 law10JudgeRight_l0 (law10JudgeRight_L0 n) := ⟨[1, 2, 5], (fun s => law10JudgeRight_B0 n s.1.1 s.1.2 s.2.1 s.2.2.1 s.2.2.2.1 s.2.2.2.2.1 s.2.2.2.2.2), by kernel_rfl, by kernel_rfl, fun s => rfl, fun s => zex n s.1.1 s.1.2 s.2.1 s.2.2.1 s.2.2.2.1 s.2.2.2.2.1 s.2.2.2.2.2⟩
theorem zdM (n : Nat) (m_0 : DH) (m_0_1 : DI) (m_0_2 : DJ) (m_0_3 : DC) (m_0_4 : DD) (maps_1 : DM) : funDS (real _) tab (law10JudgeRight_tbl n) (law10JudgeRight_loops n) law10JudgeRight_an Tryd.f8 0 law10JudgeRight_a law10JudgeRight_res ((m_0, (m_0_1, (m_0_2, (m_0_3, m_0_4)))), maps_1) some = law10JudgeRight n m_0 m_0_1 m_0_2 m_0_3 m_0_4 maps_1 := by kernel_rfl
def law10JudgeRight_E (n : Nat) : Entry := ⟨law10JudgeRight_a, law10JudgeRight_res, fun d => law10JudgeRight n d.1.1 d.1.2.1 d.1.2.2.1 d.1.2.2.2.1 d.1.2.2.2.2 d.2⟩
theorem zeA (n : Nat) : EOK Tryd.prog 8 (law10JudgeRight_E n) :=
 EOK.ofS zc zd zf (tbl := law10JudgeRight_tbl n) (loops := law10JudgeRight_loops n) (an := law10JudgeRight_an) (old := []) (n := n) (c := law10JudgeRight_c) (fn := Tryd.f8) (TblOK.cons (AllE.cons (qaz_ok n) AllE.nil) (TblOK.cons (AllE.cons (qah_ok n) AllE.nil) (TblOK.cons (AllE.cons (zcc n) AllE.nil) (TblOK.cons (AllE.cons (qay_ok n) AllE.nil) TblOK.nil)))) (by kernel_rfl) (by kernel_rfl) (by kernel_rfl) (by kernel_rfl) (fun d => by kernel_rfl) (LT.cons (by kernel_rfl) (zek n) LT.nil) (fun a => zdM n a.1.1 a.1.2.1 a.1.2.2.1 a.1.2.2.2.1 a.1.2.2.2.2 a.2)
def law10JudgeBelow_an : Ann := {}
def law10JudgeBelow_c : Code := (match Tryd.f9.body with | some c => c | none => .skip)
def law10JudgeBelow_a : StSh := ⟨.normal, [0, 1, 2], (.cons (.sl true true yD) (.cons (.sl true true yD) (.cons (.sl true true yD) .nil))), .nil⟩
def law10JudgeBelow_res : List StSh := [⟨.ret, [0], (.cons .bool .nil), .nil⟩]
def law10JudgeBelow_tbl (n : Nat) : FuncId → List Entry := fun f => bif Nat.beq f 22 then [qah_E n] else bif Nat.beq f 25 then [judgeBelow_E n] else bif Nat.beq f 20 then [qbe_E n] else []
def law10JudgeBelow_loops (n : Nat) : Nat → Option LEntry := fun f => none
theorem zdL (n : Nat) (a_0 : DA) (b_1 : DA) (c_2 : DA) : funDS (real _) tab (law10JudgeBelow_tbl n) (law10JudgeBelow_loops n) law10JudgeBelow_an Tryd.f9 0 law10JudgeBelow_a law10JudgeBelow_res (a_0, (b_1, c_2)) some = law10JudgeBelow n a_0 b_1 c_2 := by kernel_rfl
def law10JudgeBelow_E (n : Nat) : Entry := ⟨law10JudgeBelow_a, law10JudgeBelow_res, fun d => law10JudgeBelow n d.1 d.2.1 d.2.2⟩
theorem zeu (n : Nat) : EOK Tryd.prog 9 (law10JudgeBelow_E n) :=
 EOK.ofS zc zd zf (tbl := law10JudgeBelow_tbl n) (loops := law10JudgeBelow_loops n) (an := law10JudgeBelow_an) (old := []) (n := n) (c := law10JudgeBelow_c) (fn := Tryd.f9) (TblOK.cons (AllE.cons (qah_ok n) AllE.nil) (TblOK.cons (AllE.cons (zdQ n) AllE.nil) (TblOK.cons (AllE.cons (qbe_ok n) AllE.nil) TblOK.nil))) (by kernel_rfl) (by kernel_rfl) (by kernel_rfl) (by kernel_rfl) (fun d => by kernel_rfl) LT.nil (fun a => zdL n a.1 a.2.1 a.2.2)
def law10JudgeWider_an : Ann := { live := [(0, [3, 4, 5, 6, 7, 8, 9])], boxed := [(3, 2), (4, 4), (5, 4), (9, 4), (10, 9), (11, 9), (12, 4), (13, 9), (14, 9), (16, 0), (16, 2)] }
def law10JudgeWider_c : Code := (match Tryd.f11.body with | some c => c | none => .skip)
def law10JudgeWider_l0 : Code := (match assoc 0 (loopsIn law10JudgeWider_c 0) with | some c => c | none => .skip)
def law10JudgeWider_a : StSh := ⟨.normal, [0], (.cons (.int .u8) .nil), .nil⟩
def law10JudgeWider_h0 : List StSh := [⟨.normal, [3, 4, 5, 6, 7, 8, 9], (.cons (.ptr 0 0 0 0) (.cons (.ptr 1 0 0 0) (.cons (.int .i64) (.cons (.msw 2 0) (.cons (.msw 3 0) (.cons (.msw 4 0) (.cons (.int .i64) .nil))))))), (.cons (.bcells 0 false 1 (.cons (.int .i64) (.cons (.int .i64) .nil))) (.cons (.bcells 0 false 1 (.cons (.int .i64) (.cons (.int .i64) .nil))) (.cons (.bts 0 false false true yE) (.cons (.bts 0 false false true yH) (.cons (.bts 0 false false true yH) .nil)))))⟩]
def law10JudgeWider_o0 : List StSh := [⟨.exit 0, [3, 4, 6, 7, 8], (.cons (.ptr 0 0 0 0) (.cons (.ptr 1 0 0 0) (.cons (.msw 2 0) (.cons (.msw 3 0) (.cons (.msw 4 0) .nil))))), (.cons (.bcells 0 false 1 (.cons (.int .i64) (.cons (.int .i64) .nil))) (.cons (.bcells 0 false 1 (.cons (.int .i64) (.cons (.int .i64) .nil))) (.cons (.bts 0 false false true yE) (.cons (.bts 0 false false true yH) (.cons (.bts 0 false false true yH) .nil)))))⟩]
def law10JudgeWider_L0 (n : Nat) : LEntry := ⟨law10JudgeWider_h0, law10JudgeWider_o0, law10JudgeWider_W0 n⟩
def law10JudgeWider_res : List StSh := [⟨.ret, [0], (.cons .bool .nil), .nil⟩]
def law10JudgeWider_tbl (n : Nat) : FuncId → List Entry := fun f => bif Nat.beq f 22 then [qah_E n] else bif Nat.beq f 23 then [judgeRight_E n] else []
def law10JudgeWider_loops (n : Nat) : Nat → Option LEntry := fun f => bif Nat.beq f 0 then some (law10JudgeWider_L0 n) else none
theorem zez (n : Nat) (t5 : Int) (t9 : Int) (m0 : Int) (m0_1 : Int) (m1 : Int) (m1_1 : Int) (m2 : DB) (m3 : DL) (m4 : DL) : roundK (real _) tab (law10JudgeWider_tbl n) (law10JudgeWider_loops n) law10JudgeWider_an [] law10JudgeWider_l0 0 [3, 4, 5, 6, 7, 8, 9] law10JudgeWider_h0 law10JudgeWider_o0 ((t5, t9), ((m0, m0_1), ((m1, m1_1), (m2, (m3, m4))))) some = law10JudgeWider_B0 n t5 t9 m0 m0_1 m1 m1_1 m2 m3 m4 := by kernel_rfl
theorem zev (n : Nat) : LoopFact tab (law10JudgeWider_tbl n) (law10JudgeWider_loops n) law10JudgeWider_an [] n 0 law10JudgeWider_l0 (law10JudgeWider_L0 n) := ⟨[3, 4, 5, 6, 7, 8, 9], (fun s => law10JudgeWider_B0 n s.1.1 s.1.2 s.2.1.1 s.2.1.2 s.2.2.1.1 s.2.2.1.2 s.2.2.2.1 s.2.2.2.2.1 s.2.2.2.2.2), by kernel_rfl, by kernel_rfl, fun s => rfl, fun s => zez n s.1.1 s.1.2 s.2.1.1 s.2.1.2 s.2.2.1.1 s.2.2.1.2 s.2.2.2.1 s.2.2.2.2.1 s.2.2.2.2.2⟩
theorem zdN (n : Nat) (t0 : Int) : funDS (real _) tab (law10JudgeWider_tbl n) (law10JudgeWider_loops n) law10JudgeWider_an Tryd.f11 0 law10JudgeWider_a law10JudgeWider_res t0 some = law10JudgeWider n t0 := by kernel_rfl
def law10JudgeWider_E (n : Nat) : Entry := ⟨law10JudgeWider_a, law10JudgeWider_res, fun d => law10JudgeWider n d⟩
theorem zeB (n : Nat) : EOK Tryd.prog 11 (law10JudgeWider_E n) :=
 EOK.ofS zc zd zf (tbl := law10JudgeWider_tbl n) (loops := law10JudgeWider_loops n) (an := law10JudgeWider_an) (old := []) (n := n) (c := law10JudgeWider_c) (fn := Tryd.f11) (TblOK.cons (AllE.cons (qah_ok n) AllE.nil) (TblOK.cons (AllE.cons (zcc n) AllE.nil) TblOK.nil)) (by kernel_rfl) (by kernel_rfl) (by kernel_rfl) (by kernel_rfl) (fun d => by kernel_rfl) (LT.cons (by kernel_rfl) (zev n) LT.nil) (fun a => zdN n a)
end
end Sx
