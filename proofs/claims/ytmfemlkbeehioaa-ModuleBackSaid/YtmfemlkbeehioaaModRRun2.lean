import Derived.Test.YtmfemlkbeehioaaProg
import Derived.Test.YtmfemlkbeehioaaLib32
import Derived.Test.YtmfemlkbeehioaaModRFixB
import Derived.KernelRfl
open Go Go.Ab Go.Proofs
set_option linter.unusedVariables false
set_option maxRecDepth 20000
namespace Sx
noncomputable section
def qcq_h0 : List StSh := [⟨.normal, [0, 2, 4, 6, 20, 21], (.cons (.ptr 0 0 0 0) (.cons (.ptr 1 0 0 0) (.cons (.int .i64) (.cons (.ptr 2 0 0 0) (.cons (.int .i64) (.cons (.int .i64) .nil)))))), (.cons (.bcells 0 false 1 (.cons (.sl false false (.int .u8)) (.cons .bool .nil))) (.cons (.bcells 0 false 1 (.cons (.int .i64) (.cons (.int .i64) (.cons (.int .i64) .nil)))) (.cons (.bcells 0 false 1 (.cons (.int .u64) (.cons (.int .u64) .nil))) .nil)))⟩]
def qcq_o0 : List StSh := [⟨.ret, [2, 3], (.cons (.ptr 1 0 0 0) (.cons .bool .nil)), (.cons (.bcells 0 false 1 (.cons (.sl false false (.int .u8)) (.cons .bool .nil))) (.cons (.bcells 0 false 1 (.cons (.int .i64) (.cons (.int .i64) (.cons (.int .i64) .nil)))) (.cons (.bcells 0 false 1 (.cons (.int .u64) (.cons (.int .u64) .nil))) .nil)))⟩, ⟨.exit 0, [2, 4, 6], (.cons (.ptr 1 0 0 0) (.cons (.int .i64) (.cons (.ptr 2 0 0 0) .nil))), (.cons (.bcells 0 false 1 (.cons (.sl false false (.int .u8)) (.cons .bool .nil))) (.cons (.bcells 0 false 1 (.cons (.int .i64) (.cons (.int .i64) (.cons (.int .i64) .nil)))) (.cons (.bcells 0 false 1 (.cons (.int .u64) (.cons (.int .u64) .nil))) .nil)))⟩]
def qcq_L0 (n : Nat) : LEntry := ⟨qcq_h0, qcq_o0, qcq_W0 n⟩
def qcq_res : List StSh := [⟨.ret, [0], (.cons (.tup (.cons (.agg (.cons (.int .i64) (.cons (.int .i64) (.cons (.int .i64) .nil)))) (.cons .bool .nil))) .nil), (.cons (.bcells 0 false 1 (.cons (.sl false false (.int .u8)) (.cons .bool .nil))) .nil)⟩]
def qcq_tbl (n : Nat) : FuncId → List Entry := fun f => bif Nat.beq f 67 then [qai_E n] else bif Nat.beq f 116 then [qcl_E n] else bif Nat.beq f 104 then [qbc_E n] else bif Nat.beq f 56 then [qbg_E n] else []
def qcq_loops (n : Nat) : Nat → Option LEntry := fun f => bif Nat.beq f 0 then some (qcq_L0 n) else none
theorem qcq_r0 (n : Nat) (op_4 : Int) (t20 : Int) (t21 : Int) (m0 : DC) (m0_1 : Bool) (m1 : Int) (m1_1 : Int) (m1_2 : Int) (m2 : Int) (m2_1 : Int) : roundK (real _) tab (qcq_tbl n) (qcq_loops n) qcq_an [some true] qcq_l0 0 [0, 2, 4, 6, 20, 21] qcq_h0 qcq_o0 ((op_4, (t20, t21)), ((m0, m0_1), ((m1, (m1_1, m1_2)), (m2, m2_1)))) some = qcq_B0 n op_4 t20 t21 m0 m0_1 m1 m1_1 m1_2 m2 m2_1 := by kernel_rfl
theorem qcq_f0 (n : Nat) : LoopFact tab (qcq_tbl n) (qcq_loops n) qcq_an [some true] n 0 qcq_l0 (qcq_L0 n) := ⟨[0, 2, 4, 6, 20, 21], (fun s => qcq_B0 n s.1.1 s.1.2.1 s.1.2.2 s.2.1.1 s.2.1.2 s.2.2.1.1 s.2.2.1.2.1 s.2.2.1.2.2 s.2.2.2.1 s.2.2.2.2), by kernel_rfl, by kernel_rfl, fun s => rfl, fun s => qcq_r0 n s.1.1 s.1.2.1 s.1.2.2 s.2.1.1 s.2.1.2 s.2.2.1.1 s.2.2.1.2.1 s.2.2.1.2.2 s.2.2.2.1 s.2.2.2.2⟩
theorem qcq_run (n : Nat) (m0 : DC) (m0_1 : Bool) : funDS (real _) tab (qcq_tbl n) (qcq_loops n) qcq_an Try.f118 1 qcq_a qcq_res (m0, m0_1) some = qcq n m0 m0_1 := by kernel_rfl
def qcq_E (n : Nat) : Entry := ⟨qcq_a, qcq_res, fun d => qcq n d.1 d.2⟩
theorem qcq_ok (n : Nat) : EOK Try.prog 118 (qcq_E n) :=
 EOK.ofS zc zb ze (tbl := qcq_tbl n) (loops := qcq_loops n) (an := qcq_an) (old := [some true]) (n := n) (c := qcq_c) (fn := Try.f118) (TblOK.cons (AllE.cons (qai_ok n) AllE.nil) (TblOK.cons (AllE.cons (qcl_ok n) AllE.nil) (TblOK.cons (AllE.cons (qbc_ok n) AllE.nil) (TblOK.cons (AllE.cons (qbg_ok n) AllE.nil) TblOK.nil)))) (by kernel_rfl) (by kernel_rfl) (by kernel_rfl) (by kernel_rfl) (fun d => by kernel_rfl) (LT.cons (by kernel_rfl) (qcq_f0 n) LT.nil) (fun a => qcq_run n a.1 a.2)
def ql_res : List StSh := [⟨.ret, [0], (.cons (.agg (.cons (.int .i64) (.cons (.int .i64) (.cons (.int .i64) .nil)))) .nil), (.cons (.bcells 0 false 1 (.cons (.ptr 1 0 0 0) (.cons (.int .i64) (.cons .bool .nil)))) (.cons (.bcells 0 false 1 (.cons (.sl false false (.int .u8)) (.cons .bool .nil))) .nil))⟩]
def ql_tbl (n : Nat) : FuncId → List Entry := fun f => bif Nat.beq f 118 then [qcq_E n] else []
def ql_loops (n : Nat) : Nat → Option LEntry := fun f => none
theorem ql_run (n : Nat) (m0 : Int) (m0_1 : Bool) (m1 : DC) (m1_1 : Bool) : funDS (real _) tab (ql_tbl n) (ql_loops n) ql_an Try.f108 2 ql_a ql_res ((m0, m0_1), (m1, m1_1)) some = ql n m0 m0_1 m1 m1_1 := by kernel_rfl
def ql_E (n : Nat) : Entry := ⟨ql_a, ql_res, fun d => ql n d.1.1 d.1.2 d.2.1 d.2.2⟩
theorem ql_ok (n : Nat) : EOK Try.prog 108 (ql_E n) :=
 EOK.ofS zc zb ze (tbl := ql_tbl n) (loops := ql_loops n) (an := ql_an) (old := [some true, some true]) (n := n) (c := ql_c) (fn := Try.f108) (TblOK.cons (AllE.cons (qcq_ok n) AllE.nil) TblOK.nil) (by kernel_rfl) (by kernel_rfl) (by kernel_rfl) (by kernel_rfl) (fun d => by kernel_rfl) LT.nil (fun a => ql_run n a.1.1 a.1.2 a.2.1 a.2.2)
def qg_h0 : List StSh := [⟨.normal, [0, 2, 7, 10, 11], (.cons (.ptr 0 0 0 0) (.cons (.fn 108 (.cons (.ptr 0 0 0 0) .nil) .nil) (.cons (.msw 2 0) (.cons (.int .i64) (.cons (.int .i64) .nil))))), (.cons (.bcells 0 false 1 (.cons (.ptr 1 0 0 0) (.cons (.int .i64) (.cons .bool .nil)))) (.cons (.bcells 0 false 1 (.cons (.sl false false (.int .u8)) (.cons .bool .nil))) (.cons (.bts 0 false false true yE) .nil)))⟩]
def qg_o0 : List StSh := [⟨.exit 0, [7], (.cons (.msw 2 0) .nil), (.cons (.bcells 0 false 1 (.cons (.ptr 1 0 0 0) (.cons (.int .i64) (.cons .bool .nil)))) (.cons (.bcells 0 false 1 (.cons (.sl false false (.int .u8)) (.cons .bool .nil))) (.cons (.bts 0 false false true yE) .nil)))⟩]
def qg_L0 (n : Nat) : LEntry := ⟨qg_h0, qg_o0, qg_W0 n⟩
def qg_res : List StSh := [⟨.ret, [0], (.cons (.sl false true yE) .nil), (.cons (.bcells 0 false 1 (.cons (.ptr 1 0 0 0) (.cons (.int .i64) (.cons .bool .nil)))) (.cons (.bcells 0 false 1 (.cons (.sl false false (.int .u8)) (.cons .bool .nil))) .nil))⟩]
def qg_tbl (n : Nat) : FuncId → List Entry := fun f => bif Nat.beq f 71 then [qn_E n] else bif Nat.beq f 108 then [ql_E n] else []
def qg_loops (n : Nat) : Nat → Option LEntry := fun f => bif Nat.beq f 0 then some (qg_L0 n) else none
theorem qg_r0 (n : Nat) (t10 : Int) (t11 : Int) (m0 : Int) (m0_1 : Bool) (m1 : DC) (m1_1 : Bool) (m2 : DB) : roundK (real _) tab (qg_tbl n) (qg_loops n) qg_an [some true, some true] qg_l0 0 [0, 2, 7, 10, 11] qg_h0 qg_o0 ((t10, t11), ((m0, m0_1), ((m1, m1_1), m2))) some = qg_B0 n t10 t11 m0 m0_1 m1 m1_1 m2 := by kernel_rfl
theorem qg_f0 (n : Nat) : LoopFact tab (qg_tbl n) (qg_loops n) qg_an [some true, some true] n 0 qg_l0 (qg_L0 n) := ⟨[0, 2, 7, 10, 11], (fun s => qg_B0 n s.1.1 s.1.2 s.2.1.1 s.2.1.2 s.2.2.1.1 s.2.2.1.2 s.2.2.2), by kernel_rfl, by kernel_rfl, fun s => rfl, fun s => qg_r0 n s.1.1 s.1.2 s.2.1.1 s.2.1.2 s.2.2.1.1 s.2.2.1.2 s.2.2.2⟩
theorem qg_run (n : Nat) (most_1 : Int) (m0 : Int) (m0_1 : Bool) (m1 : DC) (m1_1 : Bool) : funDS (real _) tab (qg_tbl n) (qg_loops n) qg_an Try.f107 2 qg_a qg_res (most_1, ((m0, m0_1), (m1, m1_1))) some = qg n most_1 m0 m0_1 m1 m1_1 := by kernel_rfl
def qg_E (n : Nat) : Entry := ⟨qg_a, qg_res, fun d => qg n d.1 d.2.1.1 d.2.1.2 d.2.2.1 d.2.2.2⟩
theorem qg_ok (n : Nat) : EOK Try.prog 107 (qg_E n) :=
 EOK.ofS zc zb ze (tbl := qg_tbl n) (loops := qg_loops n) (an := qg_an) (old := [some true, some true]) (n := n) (c := qg_c) (fn := Try.f107) (TblOK.cons (AllE.cons (qn_ok n) AllE.nil) (TblOK.cons (AllE.cons (ql_ok n) AllE.nil) TblOK.nil)) (by kernel_rfl) (by kernel_rfl) (by kernel_rfl) (by kernel_rfl) (fun d => by kernel_rfl) (LT.cons (by kernel_rfl) (qg_f0 n) LT.nil) (fun a => qg_run n a.1 a.2.1.1 a.2.1.2 a.2.2.1 a.2.2.2)
def qa_res : List StSh := [⟨.ret, [0], (.cons (.agg (.cons (.sl false true yD) (.cons (.int .i64) (.cons (.int .i64) (.cons (.sl false true yD) (.cons (.sl false true yE) .nil)))))) .nil), (.cons (.bcells 0 false 1 (.cons (.ptr 1 0 0 0) (.cons (.int .i64) (.cons .bool .nil)))) (.cons (.bcells 0 false 1 (.cons (.sl false false (.int .u8)) (.cons .bool .nil))) .nil))⟩]
def qa_tbl (n : Nat) : FuncId → List Entry := fun f => bif Nat.beq f 59 then [qb_E n] else bif Nat.beq f 60 then [qw_E n] else bif Nat.beq f 107 then [qg_E n] else []
def qa_loops (n : Nat) : Nat → Option LEntry := fun f => none
theorem qa_run (n : Nat) (m0 : Int) (m0_1 : Bool) (m1 : DC) (m1_1 : Bool) : funDS (real _) tab (qa_tbl n) (qa_loops n) qa_an Try.f62 2 qa_a qa_res ((m0, m0_1), (m1, m1_1)) some = qa n m0 m0_1 m1 m1_1 := by kernel_rfl
def qa_E (n : Nat) : Entry := ⟨qa_a, qa_res, fun d => qa n d.1.1 d.1.2 d.2.1 d.2.2⟩
theorem qa_ok (n : Nat) : EOK Try.prog 62 (qa_E n) :=
 EOK.ofS zc zb ze (tbl := qa_tbl n) (loops := qa_loops n) (an := qa_an) (old := [some true, some true]) (n := n) (c := qa_c) (fn := Try.f62) (TblOK.cons (AllE.cons (qb_ok n) AllE.nil) (TblOK.cons (AllE.cons (qw_ok n) AllE.nil) (TblOK.cons (AllE.cons (qg_ok n) AllE.nil) TblOK.nil))) (by kernel_rfl) (by kernel_rfl) (by kernel_rfl) (by kernel_rfl) (fun d => by kernel_rfl) LT.nil (fun a => qa_run n a.1.1 a.1.2 a.2.1 a.2.2)
def qp_h0 : List StSh := [⟨.normal, [0, 2, 7, 10, 11], (.cons (.ptr 0 0 0 0) (.cons (.fn 62 (.cons (.ptr 0 0 0 0) .nil) .nil) (.cons (.msw 2 0) (.cons (.int .i64) (.cons (.int .i64) .nil))))), (.cons (.bcells 0 false 1 (.cons (.ptr 1 0 0 0) (.cons (.int .i64) (.cons .bool .nil)))) (.cons (.bcells 0 false 1 (.cons (.sl false false (.int .u8)) (.cons .bool .nil))) (.cons (.bts 0 false false true yB) .nil)))⟩]
def qp_o0 : List StSh := [⟨.exit 0, [7], (.cons (.msw 2 0) .nil), (.cons (.bcells 0 false 1 (.cons (.ptr 1 0 0 0) (.cons (.int .i64) (.cons .bool .nil)))) (.cons (.bcells 0 false 1 (.cons (.sl false false (.int .u8)) (.cons .bool .nil))) (.cons (.bts 0 false false true yB) .nil)))⟩]
def qp_L0 (n : Nat) : LEntry := ⟨qp_h0, qp_o0, qp_W0 n⟩
def qp_res : List StSh := [⟨.ret, [0], (.cons (.sl false true yB) .nil), (.cons (.bcells 0 false 1 (.cons (.ptr 1 0 0 0) (.cons (.int .i64) (.cons .bool .nil)))) (.cons (.bcells 0 false 1 (.cons (.sl false false (.int .u8)) (.cons .bool .nil))) .nil))⟩]
def qp_tbl (n : Nat) : FuncId → List Entry := fun f => bif Nat.beq f 71 then [qn_E n] else bif Nat.beq f 62 then [qa_E n] else []
def qp_loops (n : Nat) : Nat → Option LEntry := fun f => bif Nat.beq f 0 then some (qp_L0 n) else none
theorem qp_r0 (n : Nat) (t10 : Int) (t11 : Int) (m0 : Int) (m0_1 : Bool) (m1 : DC) (m1_1 : Bool) (m2 : DI) : roundK (real _) tab (qp_tbl n) (qp_loops n) qp_an [some true, some true] qp_l0 0 [0, 2, 7, 10, 11] qp_h0 qp_o0 ((t10, t11), ((m0, m0_1), ((m1, m1_1), m2))) some = qp_B0 n t10 t11 m0 m0_1 m1 m1_1 m2 := by kernel_rfl
theorem qp_f0 (n : Nat) : LoopFact tab (qp_tbl n) (qp_loops n) qp_an [some true, some true] n 0 qp_l0 (qp_L0 n) := ⟨[0, 2, 7, 10, 11], (fun s => qp_B0 n s.1.1 s.1.2 s.2.1.1 s.2.1.2 s.2.2.1.1 s.2.2.1.2 s.2.2.2), by kernel_rfl, by kernel_rfl, fun s => rfl, fun s => qp_r0 n s.1.1 s.1.2 s.2.1.1 s.2.1.2 s.2.2.1.1 s.2.2.1.2 s.2.2.2⟩
theorem qp_run (n : Nat) (most_1 : Int) (m0 : Int) (m0_1 : Bool) (m1 : DC) (m1_1 : Bool) : funDS (real _) tab (qp_tbl n) (qp_loops n) qp_an Try.f61 2 qp_a qp_res (most_1, ((m0, m0_1), (m1, m1_1))) some = qp n most_1 m0 m0_1 m1 m1_1 := by kernel_rfl
def qp_E (n : Nat) : Entry := ⟨qp_a, qp_res, fun d => qp n d.1 d.2.1.1 d.2.1.2 d.2.2.1 d.2.2.2⟩
theorem qp_ok (n : Nat) : EOK Try.prog 61 (qp_E n) :=
 EOK.ofS zc zb ze (tbl := qp_tbl n) (loops := qp_loops n) (an := qp_an) (old := [some true, some true]) (n := n) (c := qp_c) (fn := Try.f61) (TblOK.cons (AllE.cons (qn_ok n) AllE.nil) (TblOK.cons (AllE.cons (qa_ok n) AllE.nil) TblOK.nil)) (by kernel_rfl) (by kernel_rfl) (by kernel_rfl) (by kernel_rfl) (fun d => by kernel_rfl) (LT.cons (by kernel_rfl) (qp_f0 n) LT.nil) (fun a => qp_run n a.1 a.2.1.1 a.2.1.2 a.2.2.1 a.2.2.2)
def qad_an : Ann := {}
def qad_c : Code := (match Try.f54.body with | some c => c | none => .skip)
def qad_a : StSh := ⟨.normal, [0, 1, 2], (.cons (.int .i64) (.cons (.ptr 0 0 0 0) (.cons (.ptr 1 0 0 0) .nil))), (.cons (.bcells 0 false 1 (.cons (.sl false false yF) .nil)) (.cons (.bcells 0 false 1 (.cons (.sl false false yA) (.cons (.sl false true yB) (.cons .nilS (.cons .nilS (.cons .nilS .nil)))))) .nil))⟩
def qad_res : List StSh := [⟨.ret, [0], (.cons (.ptr 2 0 0 0) .nil), (.cons (.bcells 0 false 1 (.cons (.sl false false yF) .nil)) (.cons (.bcells 0 false 1 (.cons (.sl false false yA) (.cons (.sl false true yB) (.cons .nilS (.cons .nilS (.cons .nilS .nil)))))) (.cons (.bcells 0 false 1 (.cons (.ptr 3 0 0 0) (.cons (.int .i64) (.cons .bool .nil)))) (.cons (.bcells 0 false 1 (.cons (.sl false false (.int .u8)) (.cons .bool .nil))) .nil))))⟩]
def qad_tbl (n : Nat) : FuncId → List Entry := fun f => bif Nat.beq f 55 then [qbb_E n] else []
def qad_loops (n : Nat) : Nat → Option LEntry := fun f => none
theorem qad_run (n : Nat) (k_0 : Int) (m0 : DK) (m1 : DH) (m1_1 : DI) : funDS (real _) tab (qad_tbl n) (qad_loops n) qad_an Try.f54 2 qad_a qad_res (k_0, (m0, (m1, m1_1))) some = qad n k_0 m0 m1 m1_1 := by kernel_rfl
def qad_E (n : Nat) : Entry := ⟨qad_a, qad_res, fun d => qad n d.1 d.2.1 d.2.2.1 d.2.2.2⟩
theorem qad_ok (n : Nat) : EOK Try.prog 54 (qad_E n) :=
 EOK.ofS zc zb ze (tbl := qad_tbl n) (loops := qad_loops n) (an := qad_an) (old := [some true, some true]) (n := n) (c := qad_c) (fn := Try.f54) (TblOK.cons (AllE.cons (qbb_ok n) AllE.nil) TblOK.nil) (by kernel_rfl) (by kernel_rfl) (by kernel_rfl) (by kernel_rfl) (fun d => by kernel_rfl) LT.nil (fun a => qad_run n a.1 a.2.1 a.2.2.1 a.2.2.2)
def qd_an : Ann := { live := [(0, [0, 2, 7, 10, 11])], boxed := [(1, 0), (5, 4)] }
def qd_c : Code := (match Try.f63.body with | some c => c | none => .skip)
def qd_l0 : Code := (match assoc 0 (loopsIn qd_c 0) with | some c => c | none => .skip)
def qd_a : StSh := ⟨.normal, [0, 1, 2], (.cons (.ptr 0 0 0 0) (.cons (.int .i64) (.cons (.fn 64 (.cons (.ptr 0 0 0 0) .nil) .nil) .nil))), (.cons (.bcells 0 false 1 (.cons (.ptr 1 0 0 0) (.cons (.int .i64) (.cons .bool .nil)))) (.cons (.bcells 0 false 1 (.cons (.sl false false (.int .u8)) (.cons .bool .nil))) .nil))⟩
def qq_an : Ann := {}
def qq_c : Code := (match Try.f64.body with | some c => c | none => .skip)
def qq_a : StSh := ⟨.normal, [0], (.cons (.ptr 0 0 0 0) .nil), (.cons (.bcells 0 false 1 (.cons (.ptr 1 0 0 0) (.cons (.int .i64) (.cons .bool .nil)))) (.cons (.bcells 0 false 1 (.cons (.sl false false (.int .u8)) (.cons .bool .nil))) .nil))⟩
def qq_res : List StSh := [⟨.ret, [0], (.cons (.agg (.cons (.sl false true yD) (.cons (.int .i64) (.cons (.int .i64) .nil)))) .nil), (.cons (.bcells 0 false 1 (.cons (.ptr 1 0 0 0) (.cons (.int .i64) (.cons .bool .nil)))) (.cons (.bcells 0 false 1 (.cons (.sl false false (.int .u8)) (.cons .bool .nil))) .nil))⟩]
def qq_tbl (n : Nat) : FuncId → List Entry := fun f => bif Nat.beq f 59 then [qb_E n] else bif Nat.beq f 60 then [qw_E n] else []
def qq_loops (n : Nat) : Nat → Option LEntry := fun f => none
theorem qq_run (n : Nat) (m0 : Int) (m0_1 : Bool) (m1 : DC) (m1_1 : Bool) : funDS (real _) tab (qq_tbl n) (qq_loops n) qq_an Try.f64 2 qq_a qq_res ((m0, m0_1), (m1, m1_1)) some = qq n m0 m0_1 m1 m1_1 := by kernel_rfl
def qq_E (n : Nat) : Entry := ⟨qq_a, qq_res, fun d => qq n d.1.1 d.1.2 d.2.1 d.2.2⟩
theorem qq_ok (n : Nat) : EOK Try.prog 64 (qq_E n) :=
 EOK.ofS zc zb ze (tbl := qq_tbl n) (loops := qq_loops n) (an := qq_an) (old := [some true, some true]) (n := n) (c := qq_c) (fn := Try.f64) (TblOK.cons (AllE.cons (qb_ok n) AllE.nil) (TblOK.cons (AllE.cons (qw_ok n) AllE.nil) TblOK.nil)) (by kernel_rfl) (by kernel_rfl) (by kernel_rfl) (by kernel_rfl) (fun d => by kernel_rfl) LT.nil (fun a => qq_run n a.1.1 a.1.2 a.2.1 a.2.2)
def qd_h0 : List StSh := [⟨.normal, [0, 2, 7, 10, 11], (.cons (.ptr 0 0 0 0) (.cons (.fn 64 (.cons (.ptr 0 0 0 0) .nil) .nil) (.cons (.msw 2 0) (.cons (.int .i64) (.cons (.int .i64) .nil))))), (.cons (.bcells 0 false 1 (.cons (.ptr 1 0 0 0) (.cons (.int .i64) (.cons .bool .nil)))) (.cons (.bcells 0 false 1 (.cons (.sl false false (.int .u8)) (.cons .bool .nil))) (.cons (.bts 0 false false true yC) .nil)))⟩]
def qd_o0 : List StSh := [⟨.exit 0, [7], (.cons (.msw 2 0) .nil), (.cons (.bcells 0 false 1 (.cons (.ptr 1 0 0 0) (.cons (.int .i64) (.cons .bool .nil)))) (.cons (.bcells 0 false 1 (.cons (.sl false false (.int .u8)) (.cons .bool .nil))) (.cons (.bts 0 false false true yC) .nil)))⟩]
def qd_L0 (n : Nat) : LEntry := ⟨qd_h0, qd_o0, qd_W0 n⟩
def qd_res : List StSh := [⟨.ret, [0], (.cons (.sl false true yC) .nil), (.cons (.bcells 0 false 1 (.cons (.ptr 1 0 0 0) (.cons (.int .i64) (.cons .bool .nil)))) (.cons (.bcells 0 false 1 (.cons (.sl false false (.int .u8)) (.cons .bool .nil))) .nil))⟩]
def qd_tbl (n : Nat) : FuncId → List Entry := fun f => bif Nat.beq f 71 then [qn_E n] else bif Nat.beq f 64 then [qq_E n] else []
def qd_loops (n : Nat) : Nat → Option LEntry := fun f => bif Nat.beq f 0 then some (qd_L0 n) else none
theorem qd_r0 (n : Nat) (t10 : Int) (t11 : Int) (m0 : Int) (m0_1 : Bool) (m1 : DC) (m1_1 : Bool) (m2 : DJ) : roundK (real _) tab (qd_tbl n) (qd_loops n) qd_an [some true, some true] qd_l0 0 [0, 2, 7, 10, 11] qd_h0 qd_o0 ((t10, t11), ((m0, m0_1), ((m1, m1_1), m2))) some = qd_B0 n t10 t11 m0 m0_1 m1 m1_1 m2 := by kernel_rfl
theorem qd_f0 (n : Nat) : LoopFact tab (qd_tbl n) (qd_loops n) qd_an [some true, some true] n 0 qd_l0 (qd_L0 n) := ⟨[0, 2, 7, 10, 11], (fun s => qd_B0 n s.1.1 s.1.2 s.2.1.1 s.2.1.2 s.2.2.1.1 s.2.2.1.2 s.2.2.2), by kernel_rfl, by kernel_rfl, fun s => rfl, fun s => qd_r0 n s.1.1 s.1.2 s.2.1.1 s.2.1.2 s.2.2.1.1 s.2.2.1.2 s.2.2.2⟩
theorem qd_run (n : Nat) (most_1 : Int) (m0 : Int) (m0_1 : Bool) (m1 : DC) (m1_1 : Bool) : funDS (real _) tab (qd_tbl n) (qd_loops n) qd_an Try.f63 2 qd_a qd_res (most_1, ((m0, m0_1), (m1, m1_1))) some = qd n most_1 m0 m0_1 m1 m1_1 := by kernel_rfl
def qd_E (n : Nat) : Entry := ⟨qd_a, qd_res, fun d => qd n d.1 d.2.1.1 d.2.1.2 d.2.2.1 d.2.2.2⟩
theorem qd_ok (n : Nat) : EOK Try.prog 63 (qd_E n) :=
 EOK.ofS zc zb ze (tbl := qd_tbl n) (loops := qd_loops n) (an := qd_an) (old := [some true, some true]) (n := n) (c := qd_c) (fn := Try.f63) (TblOK.cons (AllE.cons (qn_ok n) AllE.nil) (TblOK.cons (AllE.cons (qq_ok n) AllE.nil) TblOK.nil)) (by kernel_rfl) (by kernel_rfl) (by kernel_rfl) (by kernel_rfl) (fun d => by kernel_rfl) (LT.cons (by kernel_rfl) (qd_f0 n) LT.nil) (fun a => qd_run n a.1 a.2.1.1 a.2.1.2 a.2.2.1 a.2.2.2)
def qac_an : Ann := {}
def qac_c : Code := (match Try.f54.body with | some c => c | none => .skip)
def qac_a : StSh := ⟨.normal, [0, 1, 2], (.cons (.int .i64) (.cons (.ptr 0 0 0 0) (.cons (.ptr 1 0 0 0) .nil))), (.cons (.bcells 0 false 1 (.cons (.sl false false yF) .nil)) (.cons (.bcells 0 false 1 (.cons (.sl false false yA) (.cons (.sl false true yB) (.cons (.sl false true yC) (.cons .nilS (.cons .nilS .nil)))))) .nil))⟩
def qac_res : List StSh := [⟨.ret, [0], (.cons (.ptr 2 0 0 0) .nil), (.cons (.bcells 0 false 1 (.cons (.sl false false yF) .nil)) (.cons (.bcells 0 false 1 (.cons (.sl false false yA) (.cons (.sl false true yB) (.cons (.sl false true yC) (.cons .nilS (.cons .nilS .nil)))))) (.cons (.bcells 0 false 1 (.cons (.ptr 3 0 0 0) (.cons (.int .i64) (.cons .bool .nil)))) (.cons (.bcells 0 false 1 (.cons (.sl false false (.int .u8)) (.cons .bool .nil))) .nil))))⟩]
def qac_tbl (n : Nat) : FuncId → List Entry := fun f => bif Nat.beq f 55 then [qbb_E n] else []
def qac_loops (n : Nat) : Nat → Option LEntry := fun f => none
theorem qac_run (n : Nat) (k_0 : Int) (m0 : DK) (m1 : DH) (m1_1 : DI) (m1_2 : DJ) : funDS (real _) tab (qac_tbl n) (qac_loops n) qac_an Try.f54 2 qac_a qac_res (k_0, (m0, (m1, (m1_1, m1_2)))) some = qac n k_0 m0 m1 m1_1 m1_2 := by kernel_rfl
def qac_E (n : Nat) : Entry := ⟨qac_a, qac_res, fun d => qac n d.1 d.2.1 d.2.2.1 d.2.2.2.1 d.2.2.2.2⟩
theorem qac_ok (n : Nat) : EOK Try.prog 54 (qac_E n) :=
 EOK.ofS zc zb ze (tbl := qac_tbl n) (loops := qac_loops n) (an := qac_an) (old := [some true, some true]) (n := n) (c := qac_c) (fn := Try.f54) (TblOK.cons (AllE.cons (qbb_ok n) AllE.nil) TblOK.nil) (by kernel_rfl) (by kernel_rfl) (by kernel_rfl) (by kernel_rfl) (fun d => by kernel_rfl) LT.nil (fun a => qac_run n a.1 a.2.1 a.2.2.1 a.2.2.2.1 a.2.2.2.2)
def qu_an : Ann := { live := [(0, [0, 2, 7, 10, 11])], boxed := [(1, 0), (5, 4)] }
def qu_c : Code := (match Try.f65.body with | some c => c | none => .skip)
def qu_l0 : Code := (match assoc 0 (loopsIn qu_c 0) with | some c => c | none => .skip)
def qu_a : StSh := ⟨.normal, [0, 1, 2], (.cons (.ptr 0 0 0 0) (.cons (.int .i64) (.cons (.fn 66 .nil (.cons (.ptr 1 0 0 0) .nil)) .nil))), (.cons (.bcells 0 false 1 (.cons (.ptr 2 0 0 0) (.cons (.int .i64) (.cons .bool .nil)))) (.cons (.bcells 0 false 1 (.cons (.ptr 0 0 0 0) .nil)) (.cons (.bcells 0 false 1 (.cons (.sl false false (.int .u8)) (.cons .bool .nil))) .nil)))⟩
def qao_an : Ann := {}
def qao_c : Code := (match Try.f66.body with | some c => c | none => .skip)
def qao_a : StSh := ⟨.normal, [0], (.cons (.ptr 0 0 0 0) .nil), (.cons (.bcells 0 false 1 (.cons (.ptr 1 0 0 0) .nil)) (.cons (.bcells 0 false 1 (.cons (.ptr 2 0 0 0) (.cons (.int .i64) (.cons .bool .nil)))) (.cons (.bcells 0 false 1 (.cons (.sl false false (.int .u8)) (.cons .bool .nil))) .nil)))⟩
def qao_res : List StSh := [⟨.ret, [0], (.cons (.int .u64) .nil), (.cons (.bcells 0 false 1 (.cons (.ptr 1 0 0 0) .nil)) (.cons (.bcells 0 false 1 (.cons (.ptr 2 0 0 0) (.cons (.int .i64) (.cons .bool .nil)))) (.cons (.bcells 0 false 1 (.cons (.sl false false (.int .u8)) (.cons .bool .nil))) .nil)))⟩]
def qao_tbl (n : Nat) : FuncId → List Entry := fun f => bif Nat.beq f 67 then [qai_E n] else []
def qao_loops (n : Nat) : Nat → Option LEntry := fun f => none
theorem qao_run (n : Nat) (m1 : Int) (m1_1 : Bool) (m2 : DC) (m2_1 : Bool) : funDS (real _) tab (qao_tbl n) (qao_loops n) qao_an Try.f66 3 qao_a qao_res ((m1, m1_1), (m2, m2_1)) some = qao n m1 m1_1 m2 m2_1 := by kernel_rfl
def qao_E (n : Nat) : Entry := ⟨qao_a, qao_res, fun d => qao n d.1.1 d.1.2 d.2.1 d.2.2⟩
theorem qao_ok (n : Nat) : EOK Try.prog 66 (qao_E n) :=
 EOK.ofS zc zb ze (tbl := qao_tbl n) (loops := qao_loops n) (an := qao_an) (old := [some true, some true, some true]) (n := n) (c := qao_c) (fn := Try.f66) (TblOK.cons (AllE.cons (qai_ok n) AllE.nil) TblOK.nil) (by kernel_rfl) (by kernel_rfl) (by kernel_rfl) (by kernel_rfl) (fun d => by kernel_rfl) LT.nil (fun a => qao_run n a.1.1 a.1.2 a.2.1 a.2.2)
def qu_h0 : List StSh := [⟨.normal, [0, 2, 7, 10, 11], (.cons (.ptr 0 0 0 0) (.cons (.fn 66 .nil (.cons (.ptr 1 0 0 0) .nil)) (.cons (.msw 3 0) (.cons (.int .i64) (.cons (.int .i64) .nil))))), (.cons (.bcells 0 false 1 (.cons (.ptr 2 0 0 0) (.cons (.int .i64) (.cons .bool .nil)))) (.cons (.bcells 0 false 1 (.cons (.ptr 0 0 0 0) .nil)) (.cons (.bcells 0 false 1 (.cons (.sl false false (.int .u8)) (.cons .bool .nil))) (.cons (.bts 0 false false false (.int .u64)) .nil))))⟩]
def qu_o0 : List StSh := [⟨.exit 0, [7], (.cons (.msw 3 0) .nil), (.cons (.bcells 0 false 1 (.cons (.ptr 2 0 0 0) (.cons (.int .i64) (.cons .bool .nil)))) (.cons (.bcells 0 false 1 (.cons (.ptr 0 0 0 0) .nil)) (.cons (.bcells 0 false 1 (.cons (.sl false false (.int .u8)) (.cons .bool .nil))) (.cons (.bts 0 false false false (.int .u64)) .nil))))⟩]
def qu_L0 (n : Nat) : LEntry := ⟨qu_h0, qu_o0, qu_W0 n⟩
def qu_res : List StSh := [⟨.ret, [0], (.cons (.sl false false (.int .u64)) .nil), (.cons (.bcells 0 false 1 (.cons (.ptr 2 0 0 0) (.cons (.int .i64) (.cons .bool .nil)))) (.cons (.bcells 0 false 1 (.cons (.ptr 0 0 0 0) .nil)) (.cons (.bcells 0 false 1 (.cons (.sl false false (.int .u8)) (.cons .bool .nil))) .nil)))⟩]
def qu_tbl (n : Nat) : FuncId → List Entry := fun f => bif Nat.beq f 71 then [qn_E n] else bif Nat.beq f 66 then [qao_E n] else []
def qu_loops (n : Nat) : Nat → Option LEntry := fun f => bif Nat.beq f 0 then some (qu_L0 n) else none
theorem qu_r0 (n : Nat) (t10 : Int) (t11 : Int) (m0 : Int) (m0_1 : Bool) (m2 : DC) (m2_1 : Bool) (m3 : DC) : roundK (real _) tab (qu_tbl n) (qu_loops n) qu_an [some true, some true, some true] qu_l0 0 [0, 2, 7, 10, 11] qu_h0 qu_o0 ((t10, t11), ((m0, m0_1), ((m2, m2_1), m3))) some = qu_B0 n t10 t11 m0 m0_1 m2 m2_1 m3 := by kernel_rfl
theorem qu_f0 (n : Nat) : LoopFact tab (qu_tbl n) (qu_loops n) qu_an [some true, some true, some true] n 0 qu_l0 (qu_L0 n) := ⟨[0, 2, 7, 10, 11], (fun s => qu_B0 n s.1.1 s.1.2 s.2.1.1 s.2.1.2 s.2.2.1.1 s.2.2.1.2 s.2.2.2), by kernel_rfl, by kernel_rfl, fun s => rfl, fun s => qu_r0 n s.1.1 s.1.2 s.2.1.1 s.2.1.2 s.2.2.1.1 s.2.2.1.2 s.2.2.2⟩
theorem qu_run (n : Nat) (most_1 : Int) (m0 : Int) (m0_1 : Bool) (m2 : DC) (m2_1 : Bool) : funDS (real _) tab (qu_tbl n) (qu_loops n) qu_an Try.f65 3 qu_a qu_res (most_1, ((m0, m0_1), (m2, m2_1))) some = qu n most_1 m0 m0_1 m2 m2_1 := by kernel_rfl
def qu_E (n : Nat) : Entry := ⟨qu_a, qu_res, fun d => qu n d.1 d.2.1.1 d.2.1.2 d.2.2.1 d.2.2.2⟩
theorem qu_ok (n : Nat) : EOK Try.prog 65 (qu_E n) :=
 EOK.ofS zc zb ze (tbl := qu_tbl n) (loops := qu_loops n) (an := qu_an) (old := [some true, some true, some true]) (n := n) (c := qu_c) (fn := Try.f65) (TblOK.cons (AllE.cons (qn_ok n) AllE.nil) (TblOK.cons (AllE.cons (qao_ok n) AllE.nil) TblOK.nil)) (by kernel_rfl) (by kernel_rfl) (by kernel_rfl) (by kernel_rfl) (fun d => by kernel_rfl) (LT.cons (by kernel_rfl) (qu_f0 n) LT.nil) (fun a => qu_run n a.1 a.2.1.1 a.2.1.2 a.2.2.1 a.2.2.2)
def qaf_an : Ann := {}
def qaf_c : Code := (match Try.f54.body with | some c => c | none => .skip)
def qaf_a : StSh := ⟨.normal, [0, 1, 2], (.cons (.int .i64) (.cons (.ptr 0 0 0 0) (.cons (.ptr 1 0 0 0) .nil))), (.cons (.bcells 0 false 1 (.cons (.sl false false yF) .nil)) (.cons (.bcells 0 false 1 (.cons (.sl false false yA) (.cons (.sl false true yB) (.cons (.sl false true yC) (.cons (.sl false false (.int .u64)) (.cons .nilS .nil)))))) .nil))⟩
def qaf_res : List StSh := [⟨.ret, [0], (.cons (.ptr 2 0 0 0) .nil), (.cons (.bcells 0 false 1 (.cons (.sl false false yF) .nil)) (.cons (.bcells 0 false 1 (.cons (.sl false false yA) (.cons (.sl false true yB) (.cons (.sl false true yC) (.cons (.sl false false (.int .u64)) (.cons .nilS .nil)))))) (.cons (.bcells 0 false 1 (.cons (.ptr 3 0 0 0) (.cons (.int .i64) (.cons .bool .nil)))) (.cons (.bcells 0 false 1 (.cons (.sl false false (.int .u8)) (.cons .bool .nil))) .nil))))⟩]
def qaf_tbl (n : Nat) : FuncId → List Entry := fun f => bif Nat.beq f 55 then [qbb_E n] else []
def qaf_loops (n : Nat) : Nat → Option LEntry := fun f => none
theorem qaf_run (n : Nat) (k_0 : Int) (m0 : DK) (m1 : DH) (m1_1 : DI) (m1_2 : DJ) (m1_3 : DC) : funDS (real _) tab (qaf_tbl n) (qaf_loops n) qaf_an Try.f54 2 qaf_a qaf_res (k_0, (m0, (m1, (m1_1, (m1_2, m1_3))))) some = qaf n k_0 m0 m1 m1_1 m1_2 m1_3 := by kernel_rfl
def qaf_E (n : Nat) : Entry := ⟨qaf_a, qaf_res, fun d => qaf n d.1 d.2.1 d.2.2.1 d.2.2.2.1 d.2.2.2.2.1 d.2.2.2.2.2⟩
theorem qaf_ok (n : Nat) : EOK Try.prog 54 (qaf_E n) :=
 EOK.ofS zc zb ze (tbl := qaf_tbl n) (loops := qaf_loops n) (an := qaf_an) (old := [some true, some true]) (n := n) (c := qaf_c) (fn := Try.f54) (TblOK.cons (AllE.cons (qbb_ok n) AllE.nil) TblOK.nil) (by kernel_rfl) (by kernel_rfl) (by kernel_rfl) (by kernel_rfl) (fun d => by kernel_rfl) LT.nil (fun a => qaf_run n a.1 a.2.1 a.2.2.1 a.2.2.2.1 a.2.2.2.2.1 a.2.2.2.2.2)
def qr_an : Ann := { live := [(0, [0, 2, 7, 10, 11])], boxed := [(1, 0), (5, 4)] }
def qr_c : Code := (match Try.f68.body with | some c => c | none => .skip)
def qr_l0 : Code := (match assoc 0 (loopsIn qr_c 0) with | some c => c | none => .skip)
def qr_a : StSh := ⟨.normal, [0, 1, 2], (.cons (.ptr 0 0 0 0) (.cons (.int .i64) (.cons (.fn 69 .nil (.cons (.ptr 1 0 0 0) .nil)) .nil))), (.cons (.bcells 0 false 1 (.cons (.ptr 2 0 0 0) (.cons (.int .i64) (.cons .bool .nil)))) (.cons (.bcells 0 false 1 (.cons (.ptr 0 0 0 0) .nil)) (.cons (.bcells 0 false 1 (.cons (.sl false false (.int .u8)) (.cons .bool .nil))) .nil)))⟩
def qap_an : Ann := {}
def qap_c : Code := (match Try.f69.body with | some c => c | none => .skip)
def qap_a : StSh := ⟨.normal, [0], (.cons (.ptr 0 0 0 0) .nil), (.cons (.bcells 0 false 1 (.cons (.ptr 1 0 0 0) .nil)) (.cons (.bcells 0 false 1 (.cons (.ptr 2 0 0 0) (.cons (.int .i64) (.cons .bool .nil)))) (.cons (.bcells 0 false 1 (.cons (.sl false false (.int .u8)) (.cons .bool .nil))) .nil)))⟩
def qap_res : List StSh := [⟨.ret, [0], (.cons .str .nil), (.cons (.bcells 0 false 1 (.cons (.ptr 1 0 0 0) .nil)) (.cons (.bcells 0 false 1 (.cons (.ptr 2 0 0 0) (.cons (.int .i64) (.cons .bool .nil)))) (.cons (.bcells 0 false 1 (.cons (.sl false false (.int .u8)) (.cons .bool .nil))) .nil)))⟩]
def qap_tbl (n : Nat) : FuncId → List Entry := fun f => bif Nat.beq f 71 then [qn_E n] else bif Nat.beq f 70 then [qay_E n] else []
def qap_loops (n : Nat) : Nat → Option LEntry := fun f => none
theorem qap_run (n : Nat) (m1 : Int) (m1_1 : Bool) (m2 : DC) (m2_1 : Bool) : funDS (real _) tab (qap_tbl n) (qap_loops n) qap_an Try.f69 3 qap_a qap_res ((m1, m1_1), (m2, m2_1)) some = qap n m1 m1_1 m2 m2_1 := by kernel_rfl
def qap_E (n : Nat) : Entry := ⟨qap_a, qap_res, fun d => qap n d.1.1 d.1.2 d.2.1 d.2.2⟩
theorem qap_ok (n : Nat) : EOK Try.prog 69 (qap_E n) :=
 EOK.ofS zc zb ze (tbl := qap_tbl n) (loops := qap_loops n) (an := qap_an) (old := [some true, some true, some true]) (n := n) (c := qap_c) (fn := Try.f69) (TblOK.cons (AllE.cons (qn_ok n) AllE.nil) (TblOK.cons (AllE.cons (qay_ok n) AllE.nil) TblOK.nil)) (by kernel_rfl) (by kernel_rfl) (by kernel_rfl) (by kernel_rfl) (fun d => by kernel_rfl) LT.nil (fun a => qap_run n a.1.1 a.1.2 a.2.1 a.2.2)
def qr_h0 : List StSh := [⟨.normal, [0, 2, 7, 10, 11], (.cons (.ptr 0 0 0 0) (.cons (.fn 69 .nil (.cons (.ptr 1 0 0 0) .nil)) (.cons (.msw 3 0) (.cons (.int .i64) (.cons (.int .i64) .nil))))), (.cons (.bcells 0 false 1 (.cons (.ptr 2 0 0 0) (.cons (.int .i64) (.cons .bool .nil)))) (.cons (.bcells 0 false 1 (.cons (.ptr 0 0 0 0) .nil)) (.cons (.bcells 0 false 1 (.cons (.sl false false (.int .u8)) (.cons .bool .nil))) (.cons (.bts 0 false false false .str) .nil))))⟩]
def qr_o0 : List StSh := [⟨.exit 0, [7], (.cons (.msw 3 0) .nil), (.cons (.bcells 0 false 1 (.cons (.ptr 2 0 0 0) (.cons (.int .i64) (.cons .bool .nil)))) (.cons (.bcells 0 false 1 (.cons (.ptr 0 0 0 0) .nil)) (.cons (.bcells 0 false 1 (.cons (.sl false false (.int .u8)) (.cons .bool .nil))) (.cons (.bts 0 false false false .str) .nil))))⟩]
def qr_L0 (n : Nat) : LEntry := ⟨qr_h0, qr_o0, qr_W0 n⟩
def qr_res : List StSh := [⟨.ret, [0], (.cons (.sl false false .str) .nil), (.cons (.bcells 0 false 1 (.cons (.ptr 2 0 0 0) (.cons (.int .i64) (.cons .bool .nil)))) (.cons (.bcells 0 false 1 (.cons (.ptr 0 0 0 0) .nil)) (.cons (.bcells 0 false 1 (.cons (.sl false false (.int .u8)) (.cons .bool .nil))) .nil)))⟩]
def qr_tbl (n : Nat) : FuncId → List Entry := fun f => bif Nat.beq f 71 then [qn_E n] else bif Nat.beq f 69 then [qap_E n] else []
def qr_loops (n : Nat) : Nat → Option LEntry := fun f => bif Nat.beq f 0 then some (qr_L0 n) else none
theorem qr_r0 (n : Nat) (t10 : Int) (t11 : Int) (m0 : Int) (m0_1 : Bool) (m2 : DC) (m2_1 : Bool) (m3 : DD) : roundK (real _) tab (qr_tbl n) (qr_loops n) qr_an [some true, some true, some true] qr_l0 0 [0, 2, 7, 10, 11] qr_h0 qr_o0 ((t10, t11), ((m0, m0_1), ((m2, m2_1), m3))) some = qr_B0 n t10 t11 m0 m0_1 m2 m2_1 m3 := by kernel_rfl
theorem qr_f0 (n : Nat) : LoopFact tab (qr_tbl n) (qr_loops n) qr_an [some true, some true, some true] n 0 qr_l0 (qr_L0 n) := ⟨[0, 2, 7, 10, 11], (fun s => qr_B0 n s.1.1 s.1.2 s.2.1.1 s.2.1.2 s.2.2.1.1 s.2.2.1.2 s.2.2.2), by kernel_rfl, by kernel_rfl, fun s => rfl, fun s => qr_r0 n s.1.1 s.1.2 s.2.1.1 s.2.1.2 s.2.2.1.1 s.2.2.1.2 s.2.2.2⟩
theorem qr_run (n : Nat) (most_1 : Int) (m0 : Int) (m0_1 : Bool) (m2 : DC) (m2_1 : Bool) : funDS (real _) tab (qr_tbl n) (qr_loops n) qr_an Try.f68 3 qr_a qr_res (most_1, ((m0, m0_1), (m2, m2_1))) some = qr n most_1 m0 m0_1 m2 m2_1 := by kernel_rfl
def qr_E (n : Nat) : Entry := ⟨qr_a, qr_res, fun d => qr n d.1 d.2.1.1 d.2.1.2 d.2.2.1 d.2.2.2⟩
theorem qr_ok (n : Nat) : EOK Try.prog 68 (qr_E n) :=
 EOK.ofS zc zb ze (tbl := qr_tbl n) (loops := qr_loops n) (an := qr_an) (old := [some true, some true, some true]) (n := n) (c := qr_c) (fn := Try.f68) (TblOK.cons (AllE.cons (qn_ok n) AllE.nil) (TblOK.cons (AllE.cons (qap_ok n) AllE.nil) TblOK.nil)) (by kernel_rfl) (by kernel_rfl) (by kernel_rfl) (by kernel_rfl) (fun d => by kernel_rfl) (LT.cons (by kernel_rfl) (qr_f0 n) LT.nil) (fun a => qr_run n a.1 a.2.1.1 a.2.1.2 a.2.2.1 a.2.2.2)
def qbf_res : List StSh := [⟨.ret, [0], (.cons (.tup (.cons (.agg (.cons (.sl false false yA) (.cons (.sl false true yB) (.cons (.sl false true yC) (.cons (.sl false false (.int .u64)) (.cons (.sl false false .str) .nil)))))) (.cons (.int .i64) .nil))) .nil), .nil⟩]
def qbf_tbl (n : Nat) : FuncId → List Entry := fun f => bif Nat.beq f 53 then [qcc_E n] else bif Nat.beq f 54 then [qaw_E n, qx_E n, qad_E n, qac_E n, qaf_E n] else bif Nat.beq f 55 then [qbb_E n] else bif Nat.beq f 56 then [qbg_E n] else bif Nat.beq f 57 then [qk_E n] else bif Nat.beq f 61 then [qp_E n] else bif Nat.beq f 63 then [qd_E n] else bif Nat.beq f 65 then [qu_E n] else bif Nat.beq f 68 then [qr_E n] else bif Nat.beq f 20 then [qbe_E n] else []
def qbf_loops (n : Nat) : Nat → Option LEntry := fun f => none
theorem qbf_run (n : Nat) (t0 : DC) : funDS (real _) tab (qbf_tbl n) (qbf_loops n) qbf_an Try.f23 0 qbf_a qbf_res t0 some = qbf n t0 := by kernel_rfl
def qbf_E (n : Nat) : Entry := ⟨qbf_a, qbf_res, fun d => qbf n d⟩
theorem qbf_ok (n : Nat) : EOK Try.prog 23 (qbf_E n) :=
 EOK.ofS zc zb ze (tbl := qbf_tbl n) (loops := qbf_loops n) (an := qbf_an) (old := []) (n := n) (c := qbf_c) (fn := Try.f23) (TblOK.cons (AllE.cons (qcc_ok n) AllE.nil) (TblOK.cons (AllE.cons (qaw_ok n) (AllE.cons (qx_ok n) (AllE.cons (qad_ok n) (AllE.cons (qac_ok n) (AllE.cons (qaf_ok n) AllE.nil))))) (TblOK.cons (AllE.cons (qbb_ok n) AllE.nil) (TblOK.cons (AllE.cons (qbg_ok n) AllE.nil) (TblOK.cons (AllE.cons (qk_ok n) AllE.nil) (TblOK.cons (AllE.cons (qp_ok n) AllE.nil) (TblOK.cons (AllE.cons (qd_ok n) AllE.nil) (TblOK.cons (AllE.cons (qu_ok n) AllE.nil) (TblOK.cons (AllE.cons (qr_ok n) AllE.nil) (TblOK.cons (AllE.cons (qbe_ok n) AllE.nil) TblOK.nil)))))))))) (by kernel_rfl) (by kernel_rfl) (by kernel_rfl) (by kernel_rfl) (fun d => by kernel_rfl) LT.nil (fun a => qbf_run n a)
def qbw_an : Ann := {}
def qbw_c : Code := (match Try.f27.body with | some c => c | none => .skip)
def qbw_a : StSh := ⟨.normal, [0, 1], (.cons (.agg (.cons (.sl true false yA) (.cons (.sl true true yB) (.cons (.sl true true yC) (.cons (.sl true false (.int .u64)) (.cons (.sl true false .str) .nil)))))) (.cons (.agg (.cons (.sl true false yA) (.cons (.sl true true yB) (.cons (.sl true true yC) (.cons (.sl true false (.int .u64)) (.cons (.sl true false .str) .nil)))))) .nil)), .nil⟩
def qat_an : Ann := { live := [(0, [1, 2, 15, 16, 17])] }
def qat_c : Code := (match Try.f73.body with | some c => c | none => .skip)
def qat_l0 : Code := (match assoc 0 (loopsIn qat_c 0) with | some c => c | none => .skip)
def qat_a : StSh := ⟨.normal, [0, 1, 2], (.cons (.sl true false yA) (.cons (.sl true false yA) (.cons (.fn 74 .nil .nil) .nil))), .nil⟩
def qce_an : Ann := { live := [(0, [0, 1, 12, 13])] }
def qce_c : Code := (match Try.f74.body with | some c => c | none => .skip)
def qce_l0 : Code := (match assoc 0 (loopsIn qce_c 0) with | some c => c | none => .skip)
def qce_a : StSh := ⟨.normal, [0, 1], (.cons (.sl true true yD) (.cons (.sl true true yD) .nil)), .nil⟩
def qce_h0 : List StSh := [⟨.normal, [0, 1, 12, 13], (.cons (.sl true true yD) (.cons (.sl true true yD) (.cons (.int .i64) (.cons (.int .i64) .nil)))), .nil⟩]
def qce_o0 : List StSh := [⟨.ret, [4], (.cons .bool .nil), .nil⟩, ⟨.exit 0, [], .nil, .nil⟩]
def qce_L0 (n : Nat) : LEntry := ⟨qce_h0, qce_o0, qce_W0 n⟩
def qce_res : List StSh := [⟨.ret, [0], (.cons .bool .nil), .nil⟩]
def qce_tbl (n : Nat) : FuncId → List Entry := fun f => []
def qce_loops (n : Nat) : Nat → Option LEntry := fun f => bif Nat.beq f 0 then some (qce_L0 n) else none
theorem qce_r0 (n : Nat) (s1_0 : DA) (s2_1 : DA) (t12 : Int) (t13 : Int) : roundK (real _) tab (qce_tbl n) (qce_loops n) qce_an [] qce_l0 0 [0, 1, 12, 13] qce_h0 qce_o0 (s1_0, (s2_1, (t12, t13))) some = qce_B0 n s1_0 s2_1 t12 t13 := by kernel_rfl
theorem qce_f0 (n : Nat) : LoopFact tab (qce_tbl n) (qce_loops n) qce_an [] n 0 qce_l0 (qce_L0 n) := ⟨[0, 1, 12, 13], (fun s => qce_B0 n s.1 s.2.1 s.2.2.1 s.2.2.2), by kernel_rfl, by kernel_rfl, fun s => rfl, fun s => qce_r0 n s.1 s.2.1 s.2.2.1 s.2.2.2⟩
theorem qce_run (n : Nat) (s1_0 : DA) (s2_1 : DA) : funDS (real _) tab (qce_tbl n) (qce_loops n) qce_an Try.f74 0 qce_a qce_res (s1_0, s2_1) some = qce n s1_0 s2_1 := by kernel_rfl
def qce_E (n : Nat) : Entry := ⟨qce_a, qce_res, fun d => qce n d.1 d.2⟩
theorem qce_ok (n : Nat) : EOK Try.prog 74 (qce_E n) :=
 EOK.ofS zc zb ze (tbl := qce_tbl n) (loops := qce_loops n) (an := qce_an) (old := []) (n := n) (c := qce_c) (fn := Try.f74) TblOK.nil (by kernel_rfl) (by kernel_rfl) (by kernel_rfl) (by kernel_rfl) (fun d => by kernel_rfl) (LT.cons (by kernel_rfl) (qce_f0 n) LT.nil) (fun a => qce_run n a.1 a.2)
def qat_h0 : List StSh := [⟨.normal, [1, 2, 15, 16, 17], (.cons (.sl true false yA) (.cons (.fn 74 .nil .nil) (.cons (.sl true false yA) (.cons (.int .i64) (.cons (.int .i64) .nil))))), .nil⟩]
def qat_o0 : List StSh := [⟨.ret, [6], (.cons .bool .nil), .nil⟩, ⟨.exit 0, [], .nil, .nil⟩]
def qat_L0 (n : Nat) : LEntry := ⟨qat_h0, qat_o0, qat_W0 n⟩
def qat_res : List StSh := [⟨.ret, [0], (.cons .bool .nil), .nil⟩]
def qat_tbl (n : Nat) : FuncId → List Entry := fun f => bif Nat.beq f 74 then [qce_E n] else []
def qat_loops (n : Nat) : Nat → Option LEntry := fun f => bif Nat.beq f 0 then some (qat_L0 n) else none
theorem qat_r0 (n : Nat) (s2_1 : DH) (t15 : DH) (t16 : Int) (t17 : Int) : roundK (real _) tab (qat_tbl n) (qat_loops n) qat_an [] qat_l0 0 [1, 2, 15, 16, 17] qat_h0 qat_o0 (s2_1, (t15, (t16, t17))) some = qat_B0 n s2_1 t15 t16 t17 := by kernel_rfl
theorem qat_f0 (n : Nat) : LoopFact tab (qat_tbl n) (qat_loops n) qat_an [] n 0 qat_l0 (qat_L0 n) := ⟨[1, 2, 15, 16, 17], (fun s => qat_B0 n s.1 s.2.1 s.2.2.1 s.2.2.2), by kernel_rfl, by kernel_rfl, fun s => rfl, fun s => qat_r0 n s.1 s.2.1 s.2.2.1 s.2.2.2⟩
theorem qat_run (n : Nat) (s1_0 : DH) (s2_1 : DH) : funDS (real _) tab (qat_tbl n) (qat_loops n) qat_an Try.f73 0 qat_a qat_res (s1_0, s2_1) some = qat n s1_0 s2_1 := by kernel_rfl
def qat_E (n : Nat) : Entry := ⟨qat_a, qat_res, fun d => qat n d.1 d.2⟩
theorem qat_ok (n : Nat) : EOK Try.prog 73 (qat_E n) :=
 EOK.ofS zc zb ze (tbl := qat_tbl n) (loops := qat_loops n) (an := qat_an) (old := []) (n := n) (c := qat_c) (fn := Try.f73) (TblOK.cons (AllE.cons (qce_ok n) AllE.nil) TblOK.nil) (by kernel_rfl) (by kernel_rfl) (by kernel_rfl) (by kernel_rfl) (fun d => by kernel_rfl) (LT.cons (by kernel_rfl) (qat_f0 n) LT.nil) (fun a => qat_run n a.1 a.2)
def qan_an : Ann := { live := [(0, [1, 2, 15, 16, 17])] }
def qan_c : Code := (match Try.f75.body with | some c => c | none => .skip)
def qan_l0 : Code := (match assoc 0 (loopsIn qan_c 0) with | some c => c | none => .skip)
def qan_a : StSh := ⟨.normal, [0, 1, 2], (.cons (.sl true true yB) (.cons (.sl true true yB) (.cons (.fn 76 .nil .nil) .nil))), .nil⟩
def qy_an : Ann := {}
def qy_c : Code := (match Try.f76.body with | some c => c | none => .skip)
def qy_a : StSh := ⟨.normal, [0, 1], (.cons (.agg (.cons (.sl true true yD) (.cons (.int .i64) (.cons (.int .i64) (.cons (.sl true true yD) (.cons (.sl true true yE) .nil)))))) (.cons (.agg (.cons (.sl true true yD) (.cons (.int .i64) (.cons (.int .i64) (.cons (.sl true true yD) (.cons (.sl true true yE) .nil)))))) .nil)), .nil⟩
def qbs_an : Ann := { live := [(0, [0, 1, 12, 13])] }
def qbs_c : Code := (match Try.f110.body with | some c => c | none => .skip)
def qbs_l0 : Code := (match assoc 0 (loopsIn qbs_c 0) with | some c => c | none => .skip)
def qbs_a : StSh := ⟨.normal, [0, 1], (.cons (.sl true true yE) (.cons (.sl true true yE) .nil)), .nil⟩
def qbs_h0 : List StSh := [⟨.normal, [0, 1, 12, 13], (.cons (.sl true true yE) (.cons (.sl true true yE) (.cons (.int .i64) (.cons (.int .i64) .nil)))), .nil⟩]
def qbs_o0 : List StSh := [⟨.ret, [4], (.cons .bool .nil), .nil⟩, ⟨.exit 0, [], .nil, .nil⟩]
def qbs_L0 (n : Nat) : LEntry := ⟨qbs_h0, qbs_o0, qbs_W0 n⟩
def qbs_res : List StSh := [⟨.ret, [0], (.cons .bool .nil), .nil⟩]
def qbs_tbl (n : Nat) : FuncId → List Entry := fun f => []
def qbs_loops (n : Nat) : Nat → Option LEntry := fun f => bif Nat.beq f 0 then some (qbs_L0 n) else none
theorem qbs_r0 (n : Nat) (s1_0 : DB) (s2_1 : DB) (t12 : Int) (t13 : Int) : roundK (real _) tab (qbs_tbl n) (qbs_loops n) qbs_an [] qbs_l0 0 [0, 1, 12, 13] qbs_h0 qbs_o0 (s1_0, (s2_1, (t12, t13))) some = qbs_B0 n s1_0 s2_1 t12 t13 := by kernel_rfl
theorem qbs_f0 (n : Nat) : LoopFact tab (qbs_tbl n) (qbs_loops n) qbs_an [] n 0 qbs_l0 (qbs_L0 n) := ⟨[0, 1, 12, 13], (fun s => qbs_B0 n s.1 s.2.1 s.2.2.1 s.2.2.2), by kernel_rfl, by kernel_rfl, fun s => rfl, fun s => qbs_r0 n s.1 s.2.1 s.2.2.1 s.2.2.2⟩
theorem qbs_run (n : Nat) (s1_0 : DB) (s2_1 : DB) : funDS (real _) tab (qbs_tbl n) (qbs_loops n) qbs_an Try.f110 0 qbs_a qbs_res (s1_0, s2_1) some = qbs n s1_0 s2_1 := by kernel_rfl
def qbs_E (n : Nat) : Entry := ⟨qbs_a, qbs_res, fun d => qbs n d.1 d.2⟩
theorem qbs_ok (n : Nat) : EOK Try.prog 110 (qbs_E n) :=
 EOK.ofS zc zb ze (tbl := qbs_tbl n) (loops := qbs_loops n) (an := qbs_an) (old := []) (n := n) (c := qbs_c) (fn := Try.f110) TblOK.nil (by kernel_rfl) (by kernel_rfl) (by kernel_rfl) (by kernel_rfl) (fun d => by kernel_rfl) (LT.cons (by kernel_rfl) (qbs_f0 n) LT.nil) (fun a => qbs_run n a.1 a.2)
def qy_res : List StSh := [⟨.ret, [0], (.cons .bool .nil), .nil⟩]
def qy_tbl (n : Nat) : FuncId → List Entry := fun f => bif Nat.beq f 74 then [qce_E n] else bif Nat.beq f 110 then [qbs_E n] else []
def qy_loops (n : Nat) : Nat → Option LEntry := fun f => none
theorem qy_run (n : Nat) (a_0 : DA) (a_0_1 : Int) (a_0_2 : Int) (a_0_3 : DA) (a_0_4 : DB) (b_1 : DA) (b_1_1 : Int) (b_1_2 : Int) (b_1_3 : DA) (b_1_4 : DB) : funDS (real _) tab (qy_tbl n) (qy_loops n) qy_an Try.f76 0 qy_a qy_res ((a_0, (a_0_1, (a_0_2, (a_0_3, a_0_4)))), (b_1, (b_1_1, (b_1_2, (b_1_3, b_1_4))))) some = qy n a_0 a_0_1 a_0_2 a_0_3 a_0_4 b_1 b_1_1 b_1_2 b_1_3 b_1_4 := by kernel_rfl
def qy_E (n : Nat) : Entry := ⟨qy_a, qy_res, fun d => qy n d.1.1 d.1.2.1 d.1.2.2.1 d.1.2.2.2.1 d.1.2.2.2.2 d.2.1 d.2.2.1 d.2.2.2.1 d.2.2.2.2.1 d.2.2.2.2.2⟩
theorem qy_ok (n : Nat) : EOK Try.prog 76 (qy_E n) :=
 EOK.ofS zc zb ze (tbl := qy_tbl n) (loops := qy_loops n) (an := qy_an) (old := []) (n := n) (c := qy_c) (fn := Try.f76) (TblOK.cons (AllE.cons (qce_ok n) AllE.nil) (TblOK.cons (AllE.cons (qbs_ok n) AllE.nil) TblOK.nil)) (by kernel_rfl) (by kernel_rfl) (by kernel_rfl) (by kernel_rfl) (fun d => by kernel_rfl) LT.nil (fun a => qy_run n a.1.1 a.1.2.1 a.1.2.2.1 a.1.2.2.2.1 a.1.2.2.2.2 a.2.1 a.2.2.1 a.2.2.2.1 a.2.2.2.2.1 a.2.2.2.2.2)
def qan_h0 : List StSh := [⟨.normal, [1, 2, 15, 16, 17], (.cons (.sl true true yB) (.cons (.fn 76 .nil .nil) (.cons (.sl true true yB) (.cons (.int .i64) (.cons (.int .i64) .nil))))), .nil⟩]
def qan_o0 : List StSh := [⟨.ret, [6], (.cons .bool .nil), (.cons (.bcells 0 false 1 (.cons (.sl true true yD) (.cons (.int .i64) (.cons (.int .i64) (.cons (.sl true true yD) (.cons (.sl true true yE) .nil)))))) (.cons (.bcells 0 false 1 (.cons (.sl true true yD) (.cons (.int .i64) (.cons (.int .i64) (.cons (.sl true true yD) (.cons (.sl true true yE) .nil)))))) .nil))⟩, ⟨.exit 0, [], .nil, .nil⟩]
def qan_L0 (n : Nat) : LEntry := ⟨qan_h0, qan_o0, qan_W0 n⟩
def qan_res : List StSh := [⟨.ret, [0], (.cons .bool .nil), .nil⟩]
def qan_tbl (n : Nat) : FuncId → List Entry := fun f => bif Nat.beq f 76 then [qy_E n] else []
def qan_loops (n : Nat) : Nat → Option LEntry := fun f => bif Nat.beq f 0 then some (qan_L0 n) else none
theorem qan_r0 (n : Nat) (s2_1 : DI) (t15 : DI) (t16 : Int) (t17 : Int) : roundK (real _) tab (qan_tbl n) (qan_loops n) qan_an [] qan_l0 0 [1, 2, 15, 16, 17] qan_h0 qan_o0 (s2_1, (t15, (t16, t17))) some = qan_B0 n s2_1 t15 t16 t17 := by kernel_rfl
theorem qan_f0 (n : Nat) : LoopFact tab (qan_tbl n) (qan_loops n) qan_an [] n 0 qan_l0 (qan_L0 n) := ⟨[1, 2, 15, 16, 17], (fun s => qan_B0 n s.1 s.2.1 s.2.2.1 s.2.2.2), by kernel_rfl, by kernel_rfl, fun s => rfl, fun s => qan_r0 n s.1 s.2.1 s.2.2.1 s.2.2.2⟩
theorem qan_run (n : Nat) (s1_0 : DI) (s2_1 : DI) : funDS (real _) tab (qan_tbl n) (qan_loops n) qan_an Try.f75 0 qan_a qan_res (s1_0, s2_1) some = qan n s1_0 s2_1 := by kernel_rfl
def qan_E (n : Nat) : Entry := ⟨qan_a, qan_res, fun d => qan n d.1 d.2⟩
theorem qan_ok (n : Nat) : EOK Try.prog 75 (qan_E n) :=
 EOK.ofS zc zb ze (tbl := qan_tbl n) (loops := qan_loops n) (an := qan_an) (old := []) (n := n) (c := qan_c) (fn := Try.f75) (TblOK.cons (AllE.cons (qy_ok n) AllE.nil) TblOK.nil) (by kernel_rfl) (by kernel_rfl) (by kernel_rfl) (by kernel_rfl) (fun d => by kernel_rfl) (LT.cons (by kernel_rfl) (qan_f0 n) LT.nil) (fun a => qan_run n a.1 a.2)
def qz_an : Ann := { live := [(0, [1, 2, 15, 16, 17])] }
def qz_c : Code := (match Try.f77.body with | some c => c | none => .skip)
def qz_l0 : Code := (match assoc 0 (loopsIn qz_c 0) with | some c => c | none => .skip)
def qz_a : StSh := ⟨.normal, [0, 1, 2], (.cons (.sl true true yC) (.cons (.sl true true yC) (.cons (.fn 78 .nil .nil) .nil))), .nil⟩
def qo_an : Ann := {}
def qo_c : Code := (match Try.f78.body with | some c => c | none => .skip)
def qo_a : StSh := ⟨.normal, [0, 1], (.cons (.agg (.cons (.sl true true yD) (.cons (.int .i64) (.cons (.int .i64) .nil)))) (.cons (.agg (.cons (.sl true true yD) (.cons (.int .i64) (.cons (.int .i64) .nil)))) .nil)), .nil⟩
def qo_res : List StSh := [⟨.ret, [0], (.cons .bool .nil), .nil⟩]
def qo_tbl (n : Nat) : FuncId → List Entry := fun f => bif Nat.beq f 74 then [qce_E n] else []
def qo_loops (n : Nat) : Nat → Option LEntry := fun f => none
theorem qo_run (n : Nat) (a_0 : DA) (a_0_1 : Int) (a_0_2 : Int) (b_1 : DA) (b_1_1 : Int) (b_1_2 : Int) : funDS (real _) tab (qo_tbl n) (qo_loops n) qo_an Try.f78 0 qo_a qo_res ((a_0, (a_0_1, a_0_2)), (b_1, (b_1_1, b_1_2))) some = qo n a_0 a_0_1 a_0_2 b_1 b_1_1 b_1_2 := by kernel_rfl
def qo_E (n : Nat) : Entry := ⟨qo_a, qo_res, fun d => qo n d.1.1 d.1.2.1 d.1.2.2 d.2.1 d.2.2.1 d.2.2.2⟩
theorem qo_ok (n : Nat) : EOK Try.prog 78 (qo_E n) :=
 EOK.ofS zc zb ze (tbl := qo_tbl n) (loops := qo_loops n) (an := qo_an) (old := []) (n := n) (c := qo_c) (fn := Try.f78) (TblOK.cons (AllE.cons (qce_ok n) AllE.nil) TblOK.nil) (by kernel_rfl) (by kernel_rfl) (by kernel_rfl) (by kernel_rfl) (fun d => by kernel_rfl) LT.nil (fun a => qo_run n a.1.1 a.1.2.1 a.1.2.2 a.2.1 a.2.2.1 a.2.2.2)
def qz_h0 : List StSh := [⟨.normal, [1, 2, 15, 16, 17], (.cons (.sl true true yC) (.cons (.fn 78 .nil .nil) (.cons (.sl true true yC) (.cons (.int .i64) (.cons (.int .i64) .nil))))), .nil⟩]
def qz_o0 : List StSh := [⟨.ret, [6], (.cons .bool .nil), (.cons (.bcells 0 false 1 (.cons (.sl true true yD) (.cons (.int .i64) (.cons (.int .i64) .nil)))) (.cons (.bcells 0 false 1 (.cons (.sl true true yD) (.cons (.int .i64) (.cons (.int .i64) .nil)))) .nil))⟩, ⟨.exit 0, [], .nil, .nil⟩]
def qz_L0 (n : Nat) : LEntry := ⟨qz_h0, qz_o0, qz_W0 n⟩
def qz_res : List StSh := [⟨.ret, [0], (.cons .bool .nil), .nil⟩]
def qz_tbl (n : Nat) : FuncId → List Entry := fun f => bif Nat.beq f 78 then [qo_E n] else []
def qz_loops (n : Nat) : Nat → Option LEntry := fun f => bif Nat.beq f 0 then some (qz_L0 n) else none
theorem qz_r0 (n : Nat) (s2_1 : DJ) (t15 : DJ) (t16 : Int) (t17 : Int) : roundK (real _) tab (qz_tbl n) (qz_loops n) qz_an [] qz_l0 0 [1, 2, 15, 16, 17] qz_h0 qz_o0 (s2_1, (t15, (t16, t17))) some = qz_B0 n s2_1 t15 t16 t17 := by kernel_rfl
theorem qz_f0 (n : Nat) : LoopFact tab (qz_tbl n) (qz_loops n) qz_an [] n 0 qz_l0 (qz_L0 n) := ⟨[1, 2, 15, 16, 17], (fun s => qz_B0 n s.1 s.2.1 s.2.2.1 s.2.2.2), by kernel_rfl, by kernel_rfl, fun s => rfl, fun s => qz_r0 n s.1 s.2.1 s.2.2.1 s.2.2.2⟩
theorem qz_run (n : Nat) (s1_0 : DJ) (s2_1 : DJ) : funDS (real _) tab (qz_tbl n) (qz_loops n) qz_an Try.f77 0 qz_a qz_res (s1_0, s2_1) some = qz n s1_0 s2_1 := by kernel_rfl
def qz_E (n : Nat) : Entry := ⟨qz_a, qz_res, fun d => qz n d.1 d.2⟩
theorem qz_ok (n : Nat) : EOK Try.prog 77 (qz_E n) :=
 EOK.ofS zc zb ze (tbl := qz_tbl n) (loops := qz_loops n) (an := qz_an) (old := []) (n := n) (c := qz_c) (fn := Try.f77) (TblOK.cons (AllE.cons (qo_ok n) AllE.nil) TblOK.nil) (by kernel_rfl) (by kernel_rfl) (by kernel_rfl) (by kernel_rfl) (fun d => by kernel_rfl) (LT.cons (by kernel_rfl) (qz_f0 n) LT.nil) (fun a => qz_run n a.1 a.2)
def qbl_an : Ann := { live := [(0, [0, 1, 12, 13])] }
def qbl_c : Code := (match Try.f79.body with | some c => c | none => .skip)
def qbl_l0 : Code := (match assoc 0 (loopsIn qbl_c 0) with | some c => c | none => .skip)
def qbl_a : StSh := ⟨.normal, [0, 1], (.cons (.sl true false (.int .u64)) (.cons (.sl true false (.int .u64)) .nil)), .nil⟩
def qbl_h0 : List StSh := [⟨.normal, [0, 1, 12, 13], (.cons (.sl true false (.int .u64)) (.cons (.sl true false (.int .u64)) (.cons (.int .i64) (.cons (.int .i64) .nil)))), .nil⟩]
def qbl_o0 : List StSh := [⟨.ret, [4], (.cons .bool .nil), .nil⟩, ⟨.exit 0, [], .nil, .nil⟩]
def qbl_L0 (n : Nat) : LEntry := ⟨qbl_h0, qbl_o0, qbl_W0 n⟩
def qbl_res : List StSh := [⟨.ret, [0], (.cons .bool .nil), .nil⟩]
def qbl_tbl (n : Nat) : FuncId → List Entry := fun f => []
def qbl_loops (n : Nat) : Nat → Option LEntry := fun f => bif Nat.beq f 0 then some (qbl_L0 n) else none
theorem qbl_r0 (n : Nat) (s1_0 : DC) (s2_1 : DC) (t12 : Int) (t13 : Int) : roundK (real _) tab (qbl_tbl n) (qbl_loops n) qbl_an [] qbl_l0 0 [0, 1, 12, 13] qbl_h0 qbl_o0 (s1_0, (s2_1, (t12, t13))) some = qbl_B0 n s1_0 s2_1 t12 t13 := by kernel_rfl
theorem qbl_f0 (n : Nat) : LoopFact tab (qbl_tbl n) (qbl_loops n) qbl_an [] n 0 qbl_l0 (qbl_L0 n) := ⟨[0, 1, 12, 13], (fun s => qbl_B0 n s.1 s.2.1 s.2.2.1 s.2.2.2), by kernel_rfl, by kernel_rfl, fun s => rfl, fun s => qbl_r0 n s.1 s.2.1 s.2.2.1 s.2.2.2⟩
theorem qbl_run (n : Nat) (s1_0 : DC) (s2_1 : DC) : funDS (real _) tab (qbl_tbl n) (qbl_loops n) qbl_an Try.f79 0 qbl_a qbl_res (s1_0, s2_1) some = qbl n s1_0 s2_1 := by kernel_rfl
def qbl_E (n : Nat) : Entry := ⟨qbl_a, qbl_res, fun d => qbl n d.1 d.2⟩
theorem qbl_ok (n : Nat) : EOK Try.prog 79 (qbl_E n) :=
 EOK.ofS zc zb ze (tbl := qbl_tbl n) (loops := qbl_loops n) (an := qbl_an) (old := []) (n := n) (c := qbl_c) (fn := Try.f79) TblOK.nil (by kernel_rfl) (by kernel_rfl) (by kernel_rfl) (by kernel_rfl) (fun d => by kernel_rfl) (LT.cons (by kernel_rfl) (qbl_f0 n) LT.nil) (fun a => qbl_run n a.1 a.2)
def qbk_an : Ann := { live := [(0, [0, 1, 12, 13])] }
def qbk_c : Code := (match Try.f80.body with | some c => c | none => .skip)
def qbk_l0 : Code := (match assoc 0 (loopsIn qbk_c 0) with | some c => c | none => .skip)
def qbk_a : StSh := ⟨.normal, [0, 1], (.cons (.sl true false .str) (.cons (.sl true false .str) .nil)), .nil⟩
def qbk_h0 : List StSh := [⟨.normal, [0, 1, 12, 13], (.cons (.sl true false .str) (.cons (.sl true false .str) (.cons (.int .i64) (.cons (.int .i64) .nil)))), .nil⟩]
def qbk_o0 : List StSh := [⟨.ret, [4], (.cons .bool .nil), .nil⟩, ⟨.exit 0, [], .nil, .nil⟩]
def qbk_L0 (n : Nat) : LEntry := ⟨qbk_h0, qbk_o0, qbk_W0 n⟩
def qbk_res : List StSh := [⟨.ret, [0], (.cons .bool .nil), .nil⟩]
def qbk_tbl (n : Nat) : FuncId → List Entry := fun f => []
def qbk_loops (n : Nat) : Nat → Option LEntry := fun f => bif Nat.beq f 0 then some (qbk_L0 n) else none
theorem qbk_r0 (n : Nat) (s1_0 : DD) (s2_1 : DD) (t12 : Int) (t13 : Int) : roundK (real _) tab (qbk_tbl n) (qbk_loops n) qbk_an [] qbk_l0 0 [0, 1, 12, 13] qbk_h0 qbk_o0 (s1_0, (s2_1, (t12, t13))) some = qbk_B0 n s1_0 s2_1 t12 t13 := by kernel_rfl
theorem qbk_f0 (n : Nat) : LoopFact tab (qbk_tbl n) (qbk_loops n) qbk_an [] n 0 qbk_l0 (qbk_L0 n) := ⟨[0, 1, 12, 13], (fun s => qbk_B0 n s.1 s.2.1 s.2.2.1 s.2.2.2), by kernel_rfl, by kernel_rfl, fun s => rfl, fun s => qbk_r0 n s.1 s.2.1 s.2.2.1 s.2.2.2⟩
theorem qbk_run (n : Nat) (s1_0 : DD) (s2_1 : DD) : funDS (real _) tab (qbk_tbl n) (qbk_loops n) qbk_an Try.f80 0 qbk_a qbk_res (s1_0, s2_1) some = qbk n s1_0 s2_1 := by kernel_rfl
def qbk_E (n : Nat) : Entry := ⟨qbk_a, qbk_res, fun d => qbk n d.1 d.2⟩
theorem qbk_ok (n : Nat) : EOK Try.prog 80 (qbk_E n) :=
 EOK.ofS zc zb ze (tbl := qbk_tbl n) (loops := qbk_loops n) (an := qbk_an) (old := []) (n := n) (c := qbk_c) (fn := Try.f80) TblOK.nil (by kernel_rfl) (by kernel_rfl) (by kernel_rfl) (by kernel_rfl) (fun d => by kernel_rfl) (LT.cons (by kernel_rfl) (qbk_f0 n) LT.nil) (fun a => qbk_run n a.1 a.2)
def qbw_res : List StSh := [⟨.ret, [0], (.cons .bool .nil), .nil⟩]
def qbw_tbl (n : Nat) : FuncId → List Entry := fun f => bif Nat.beq f 73 then [qat_E n] else bif Nat.beq f 75 then [qan_E n] else bif Nat.beq f 77 then [qz_E n] else bif Nat.beq f 79 then [qbl_E n] else bif Nat.beq f 80 then [qbk_E n] else []
def qbw_loops (n : Nat) : Nat → Option LEntry := fun f => none
theorem qbw_run (n : Nat) (a_0 : DH) (a_0_1 : DI) (a_0_2 : DJ) (a_0_3 : DC) (a_0_4 : DD) (b_1 : DH) (b_1_1 : DI) (b_1_2 : DJ) (b_1_3 : DC) (b_1_4 : DD) : funDS (real _) tab (qbw_tbl n) (qbw_loops n) qbw_an Try.f27 0 qbw_a qbw_res ((a_0, (a_0_1, (a_0_2, (a_0_3, a_0_4)))), (b_1, (b_1_1, (b_1_2, (b_1_3, b_1_4))))) some = qbw n a_0 a_0_1 a_0_2 a_0_3 a_0_4 b_1 b_1_1 b_1_2 b_1_3 b_1_4 := by kernel_rfl
def qbw_E (n : Nat) : Entry := ⟨qbw_a, qbw_res, fun d => qbw n d.1.1 d.1.2.1 d.1.2.2.1 d.1.2.2.2.1 d.1.2.2.2.2 d.2.1 d.2.2.1 d.2.2.2.1 d.2.2.2.2.1 d.2.2.2.2.2⟩
theorem qbw_ok (n : Nat) : EOK Try.prog 27 (qbw_E n) :=
 EOK.ofS zc zb ze (tbl := qbw_tbl n) (loops := qbw_loops n) (an := qbw_an) (old := []) (n := n) (c := qbw_c) (fn := Try.f27) (TblOK.cons (AllE.cons (qat_ok n) AllE.nil) (TblOK.cons (AllE.cons (qan_ok n) AllE.nil) (TblOK.cons (AllE.cons (qz_ok n) AllE.nil) (TblOK.cons (AllE.cons (qbl_ok n) AllE.nil) (TblOK.cons (AllE.cons (qbk_ok n) AllE.nil) TblOK.nil))))) (by kernel_rfl) (by kernel_rfl) (by kernel_rfl) (by kernel_rfl) (fun d => by kernel_rfl) LT.nil (fun a => qbw_run n a.1.1 a.1.2.1 a.1.2.2.1 a.1.2.2.2.1 a.1.2.2.2.2 a.2.1 a.2.2.1 a.2.2.2.1 a.2.2.2.2.1 a.2.2.2.2.2)
def qbh_an : Ann := {}
def qbh_c : Code := (match Try.f22.body with | some c => c | none => .skip)
def qbh_a : StSh := ⟨.normal, [0], (.cons (.agg (.cons (.sl true false yA) (.cons (.sl true true yB) (.cons (.sl true true yC) (.cons (.sl true false (.int .u64)) (.cons (.sl true false .str) .nil)))))) .nil), .nil⟩
def qct_an : Ann := { live := [(0, [3, 7, 8, 9]), (2, [3, 7, 8, 9, 17])] }
def qct_c : Code := (match Try.f52.body with | some c => c | none => .skip)
def qct_l0 : Code := (match assoc 0 (loopsIn qct_c 0) with | some c => c | none => .skip)
def qct_l2 : Code := (match assoc 2 (loopsIn qct_c 0) with | some c => c | none => .skip)
def qct_a : StSh := ⟨.normal, [0], (.cons (.sl true false (.int .u8)) .nil), .nil⟩
def qct_h2 : List StSh := [⟨.normal, [3, 7, 8, 9, 17], (.cons (.int .u32) (.cons (.sl true false (.int .u8)) (.cons (.int .i64) (.cons (.int .i64) (.cons (.int .i64) .nil))))), .nil⟩]
def qct_o2 : List StSh := [⟨.exit 2, [3, 7, 8, 9], (.cons (.int .u32) (.cons (.sl true false (.int .u8)) (.cons (.int .i64) (.cons (.int .i64) .nil)))), .nil⟩]
def qct_L2 (n : Nat) : LEntry := ⟨qct_h2, qct_o2, qct_W2 n⟩
def qct_h0 : List StSh := [⟨.normal, [3, 7, 8, 9], (.cons (.int .u32) (.cons (.sl true false (.int .u8)) (.cons (.int .i64) (.cons (.int .i64) .nil)))), .nil⟩]
def qct_o0 : List StSh := [⟨.exit 0, [3], (.cons (.int .u32) .nil), .nil⟩]
def qct_L0 (n : Nat) : LEntry := ⟨qct_h0, qct_o0, qct_W0 n⟩
def qct_res : List StSh := [⟨.ret, [0], (.cons (.int .u32) .nil), .nil⟩]
def qct_tbl (n : Nat) : FuncId → List Entry := fun f => []
def qct_loops (n : Nat) : Nat → Option LEntry := fun f => bif Nat.beq f 2 then some (qct_L2 n) else bif Nat.beq f 0 then some (qct_L0 n) else none
theorem qct_r2 (n : Nat) (n_3 : Int) (t7 : DC) (t8 : Int) (t9 : Int) (t17 : Int) : roundK (real _) tab (qct_tbl n) (qct_loops n) qct_an [] qct_l2 2 [3, 7, 8, 9, 17] qct_h2 qct_o2 (n_3, (t7, (t8, (t9, t17)))) some = qct_B2 n n_3 t7 t8 t9 t17 := by kernel_rfl
theorem qct_f2 (n : Nat) : LoopFact tab (qct_tbl n) (qct_loops n) qct_an [] n 2 qct_l2 (qct_L2 n) := ⟨[3, 7, 8, 9, 17], (fun s => qct_B2 n s.1 s.2.1 s.2.2.1 s.2.2.2.1 s.2.2.2.2), by kernel_rfl, by kernel_rfl, fun s => rfl, fun s => qct_r2 n s.1 s.2.1 s.2.2.1 s.2.2.2.1 s.2.2.2.2⟩
theorem qct_r0 (n : Nat) (n_3 : Int) (t7 : DC) (t8 : Int) (t9 : Int) : roundK (real _) tab (qct_tbl n) (qct_loops n) qct_an [] qct_l0 0 [3, 7, 8, 9] qct_h0 qct_o0 (n_3, (t7, (t8, t9))) some = qct_B0 n n_3 t7 t8 t9 := by kernel_rfl
theorem qct_f0 (n : Nat) : LoopFact tab (qct_tbl n) (qct_loops n) qct_an [] n 0 qct_l0 (qct_L0 n) := ⟨[3, 7, 8, 9], (fun s => qct_B0 n s.1 s.2.1 s.2.2.1 s.2.2.2), by kernel_rfl, by kernel_rfl, fun s => rfl, fun s => qct_r0 n s.1 s.2.1 s.2.2.1 s.2.2.2⟩
theorem qct_run (n : Nat) (b_0 : DC) : funDS (real _) tab (qct_tbl n) (qct_loops n) qct_an Try.f52 0 qct_a qct_res b_0 some = qct n b_0 := by kernel_rfl
def qct_E (n : Nat) : Entry := ⟨qct_a, qct_res, fun d => qct n d⟩
theorem qct_ok (n : Nat) : EOK Try.prog 52 (qct_E n) :=
 EOK.ofS zc zb ze (tbl := qct_tbl n) (loops := qct_loops n) (an := qct_an) (old := []) (n := n) (c := qct_c) (fn := Try.f52) TblOK.nil (by kernel_rfl) (by kernel_rfl) (by kernel_rfl) (by kernel_rfl) (fun d => by kernel_rfl) (LT.cons (by kernel_rfl) (qct_f2 n) (LT.cons (by kernel_rfl) (qct_f0 n) LT.nil)) (fun a => qct_run n a)
def qbh_res : List StSh := [⟨.ret, [0], (.cons (.int .u32) .nil), .nil⟩]
def qbh_tbl (n : Nat) : FuncId → List Entry := fun f => bif Nat.beq f 20 then [qbe_E n] else bif Nat.beq f 52 then [qct_E n] else []
def qbh_loops (n : Nat) : Nat → Option LEntry := fun f => none
theorem qbh_run (n : Nat) (m_0 : DH) (m_0_1 : DI) (m_0_2 : DJ) (m_0_3 : DC) (m_0_4 : DD) : funDS (real _) tab (qbh_tbl n) (qbh_loops n) qbh_an Try.f22 0 qbh_a qbh_res (m_0, (m_0_1, (m_0_2, (m_0_3, m_0_4)))) some = qbh n m_0 m_0_1 m_0_2 m_0_3 m_0_4 := by kernel_rfl
def qbh_E (n : Nat) : Entry := ⟨qbh_a, qbh_res, fun d => qbh n d.1 d.2.1 d.2.2.1 d.2.2.2.1 d.2.2.2.2⟩
theorem qbh_ok (n : Nat) : EOK Try.prog 22 (qbh_E n) :=
 EOK.ofS zc zb ze (tbl := qbh_tbl n) (loops := qbh_loops n) (an := qbh_an) (old := []) (n := n) (c := qbh_c) (fn := Try.f22) (TblOK.cons (AllE.cons (qbe_ok n) AllE.nil) (TblOK.cons (AllE.cons (qct_ok n) AllE.nil) TblOK.nil)) (by kernel_rfl) (by kernel_rfl) (by kernel_rfl) (by kernel_rfl) (fun d => by kernel_rfl) LT.nil (fun a => qbh_run n a.1 a.2.1 a.2.2.1 a.2.2.2.1 a.2.2.2.2)
def qbd_res : List StSh := [⟨.ret, [0], (.cons .bool .nil), .nil⟩]
def qbd_tbl (n : Nat) : FuncId → List Entry := fun f => bif Nat.beq f 20 then [qbe_E n] else bif Nat.beq f 23 then [qbf_E n] else bif Nat.beq f 27 then [qbw_E n] else bif Nat.beq f 22 then [qbh_E n] else []
def qbd_loops (n : Nat) : Nat → Option LEntry := fun f => none
theorem qbd_run (n : Nat) : funDS (real _) tab (qbd_tbl n) (qbd_loops n) qbd_an Try.f19 0 qbd_a qbd_res () some = qbd n := by kernel_rfl
def qbd_E (n : Nat) : Entry := ⟨qbd_a, qbd_res, fun d => qbd n⟩
theorem qbd_ok (n : Nat) : EOK Try.prog 19 (qbd_E n) :=
 EOK.ofS zc zb ze (tbl := qbd_tbl n) (loops := qbd_loops n) (an := qbd_an) (old := []) (n := n) (c := qbd_c) (fn := Try.f19) (TblOK.cons (AllE.cons (qbe_ok n) AllE.nil) (TblOK.cons (AllE.cons (qbf_ok n) AllE.nil) (TblOK.cons (AllE.cons (qbw_ok n) AllE.nil) (TblOK.cons (AllE.cons (qbh_ok n) AllE.nil) TblOK.nil)))) (by kernel_rfl) (by kernel_rfl) (by kernel_rfl) (by kernel_rfl) (fun d => by kernel_rfl) LT.nil (fun a => qbd_run n)
def qbp_an : Ann := { live := [(0, [1, 4, 5, 6, 7]), (2, [1, 4, 5, 6, 10, 11]), (4, [1, 4, 5, 6, 10, 11, 12, 17]), (6, [1, 4, 5, 6, 10, 19, 20]), (8, [1, 5, 6, 10, 19, 23, 24]), (10, [1, 5, 6, 10, 19, 23, 25, 26])], boxed := [(10, 2), (21, 2), (21, 6), (21, 8), (21, 14), (28, 2), (35, 2), (35, 10), (40, 7), (46, 9), (46, 15)], raw := [(5, 2), (11, 4), (29, 4), (36, 4), (41, 4)] }
def qbp_c : Code := (match Try.f21.body with | some c => c | none => .skip)
def qbp_l0 : Code := (match assoc 0 (loopsIn qbp_c 0) with | some c => c | none => .skip)
def qbp_l2 : Code := (match assoc 2 (loopsIn qbp_c 0) with | some c => c | none => .skip)
def qbp_l4 : Code := (match assoc 4 (loopsIn qbp_c 0) with | some c => c | none => .skip)
def qbp_l6 : Code := (match assoc 6 (loopsIn qbp_c 0) with | some c => c | none => .skip)
def qbp_l8 : Code := (match assoc 8 (loopsIn qbp_c 0) with | some c => c | none => .skip)
def qbp_l10 : Code := (match assoc 10 (loopsIn qbp_c 0) with | some c => c | none => .skip)
def qbp_a : StSh := ⟨.normal, [0], (.cons (.agg (.cons (.sl true false yA) (.cons (.sl true true yB) (.cons (.sl true true yC) (.cons (.sl true false (.int .u64)) (.cons (.sl true false .str) .nil)))))) .nil), .nil⟩
def qch_an : Ann := { boxed := [(0, 0), (2, 2), (3, 4), (3, 8)] }
def qch_c : Code := (match Try.f46.body with | some c => c | none => .skip)
def qch_a : StSh := ⟨.normal, [0], (.cons (.int .u64) .nil), .nil⟩
def qch_res : List StSh := [⟨.ret, [0], (.cons (.msw 0 0) .nil), (.cons (.bts 0 false false false (.int .u8)) .nil)⟩]
def qch_Ed (n d : Nat) : Entry := ⟨qch_a, qch_res, qch_D n d⟩
def qch_tbl (n d : Nat) : FuncId → List Entry := fun f => bif Nat.beq f 46 then [qch_Ed n d] else []
def qch_loops (n : Nat) : Nat → Option LEntry := fun f => none
theorem qch_run (n d : Nat) (v_0 : Int) : funD (real _) tab (qch_tbl n d) (qch_loops n) qch_an Try.f46 qch_a qch_res v_0 some = qch_D n (d + 1) v_0 := by kernel_rfl
def qch_E (n : Nat) : Entry := ⟨qch_a, qch_res, fun d => qch n d⟩
theorem qch_okd (n : Nat) (d : Nat) : EOK Try.prog 46 (qch_Ed n d) :=
 Nat.rec (EOK.none (by kernel_rfl) fun _ => rfl) (fun d ih => EOK.of zc zb ze (tbl := qch_tbl n d) (loops := qch_loops n) (an := qch_an) (old := []) (n := n) (c := qch_c) (fn := Try.f46) (TblOK.cons (AllE.cons ih AllE.nil) TblOK.nil) (by kernel_rfl) (by kernel_rfl) (by kernel_rfl) (by kernel_rfl) (fun d => by kernel_rfl) LT.nil (fun a => qch_run n d a)) d
theorem qch_ok (n : Nat) : EOK Try.prog 46 (qch_E n) := qch_okd n n
def qbx_an : Ann := { live := [(0, [0, 1, 2, 8, 9])], boxed := [(7, 6)], raw := [(1, 3)] }
def qbx_c : Code := (match Try.f47.body with | some c => c | none => .skip)
def qbx_l0 : Code := (match assoc 0 (loopsIn qbx_c 0) with | some c => c | none => .skip)
def qbx_a : StSh := ⟨.normal, [0, 1, 2], (.cons (.sl true true yD) (.cons (.int .i64) (.cons (.int .i64) .nil))), .nil⟩
def qcb_an : Ann := {}
def qcb_c : Code := (match Try.f18.body with | some c => c | none => .skip)
def qcb_a : StSh := ⟨.normal, [0, 1], (.cons (.agg (.cons (.int .i64) (.cons (.int .i64) .nil))) (.cons (.int .i64) .nil)), .nil⟩
def qcb_res : List StSh := [⟨.ret, [0], (.cons .bool .nil), .nil⟩]
def qcb_tbl (n : Nat) : FuncId → List Entry := fun f => []
def qcb_loops (n : Nat) : Nat → Option LEntry := fun f => none
theorem qcb_run (n : Nat) (t_0 : Int) (t_0_1 : Int) (recs_1 : Int) : funDS (real _) tab (qcb_tbl n) (qcb_loops n) qcb_an Try.f18 0 qcb_a qcb_res ((t_0, t_0_1), recs_1) some = qcb n t_0 t_0_1 recs_1 := by kernel_rfl
def qcb_E (n : Nat) : Entry := ⟨qcb_a, qcb_res, fun d => qcb n d.1.1 d.1.2 d.2⟩
theorem qcb_ok (n : Nat) : EOK Try.prog 18 (qcb_E n) :=
 EOK.ofS zc zb ze (tbl := qcb_tbl n) (loops := qcb_loops n) (an := qcb_an) (old := []) (n := n) (c := qcb_c) (fn := Try.f18) TblOK.nil (by kernel_rfl) (by kernel_rfl) (by kernel_rfl) (by kernel_rfl) (fun d => by kernel_rfl) LT.nil (fun a => qcb_run n a.1.1 a.1.2 a.2)
def qbz_an : Ann := { raw := [(6, 2)] }
def qbz_c : Code := (match Try.f48.body with | some c => c | none => .skip)
def qbz_a : StSh := ⟨.normal, [0], (.cons (.agg (.cons (.int .i64) (.cons (.int .i64) .nil))) .nil), .nil⟩
def qbz_res : List StSh := [⟨.ret, [0], (.cons (.sl false false (.int .u8)) .nil), .nil⟩]
def qbz_tbl (n : Nat) : FuncId → List Entry := fun f => bif Nat.beq f 46 then [qch_E n] else []
def qbz_loops (n : Nat) : Nat → Option LEntry := fun f => none
theorem qbz_run (n : Nat) (t_0 : Int) (t_0_1 : Int) : funDS (real _) tab (qbz_tbl n) (qbz_loops n) qbz_an Try.f48 0 qbz_a qbz_res (t_0, t_0_1) some = qbz n t_0 t_0_1 := by kernel_rfl
def qbz_E (n : Nat) : Entry := ⟨qbz_a, qbz_res, fun d => qbz n d.1 d.2⟩
theorem qbz_ok (n : Nat) : EOK Try.prog 48 (qbz_E n) :=
 EOK.ofS zc zb ze (tbl := qbz_tbl n) (loops := qbz_loops n) (an := qbz_an) (old := []) (n := n) (c := qbz_c) (fn := Try.f48) (TblOK.cons (AllE.cons (qch_ok n) AllE.nil) TblOK.nil) (by kernel_rfl) (by kernel_rfl) (by kernel_rfl) (by kernel_rfl) (fun d => by kernel_rfl) LT.nil (fun a => qbz_run n a.1 a.2)
def qbx_h0 : List StSh := [⟨.normal, [0, 1, 2, 8, 9], (.cons (.sl true true yD) (.cons (.int .i64) (.cons (.int .i64) (.cons (.msw 0 0) (.cons (.int .i64) .nil))))), (.cons (.bts 0 false false false (.int .u8)) .nil)⟩]
def qbx_o0 : List StSh := [⟨.ret, [6, 7], (.cons (.sl false false (.int .u8)) (.cons .bool .nil)), (.cons (.bts 0 false false false (.int .u8)) .nil)⟩, ⟨.exit 0, [0, 2, 8], (.cons (.sl true true yD) (.cons (.int .i64) (.cons (.msw 0 0) .nil))), (.cons (.bts 0 false false false (.int .u8)) .nil)⟩]
def qbx_L0 (n : Nat) : LEntry := ⟨qbx_h0, qbx_o0, qbx_W0 n⟩
def qbx_res : List StSh := [⟨.ret, [0], (.cons (.tup (.cons (.sl false false (.int .u8)) (.cons .bool .nil))) .nil), .nil⟩]
def qbx_tbl (n : Nat) : FuncId → List Entry := fun f => bif Nat.beq f 46 then [qch_E n] else bif Nat.beq f 18 then [qcb_E n] else bif Nat.beq f 48 then [qbz_E n] else []
def qbx_loops (n : Nat) : Nat → Option LEntry := fun f => bif Nat.beq f 0 then some (qbx_L0 n) else none
theorem qbx_r0 (n : Nat) (l_0 : DA) (recs_1 : Int) (most_2 : Int) (i_9 : Int) (m0 : DC) : roundK (real _) tab (qbx_tbl n) (qbx_loops n) qbx_an [] qbx_l0 0 [0, 1, 2, 8, 9] qbx_h0 qbx_o0 ((l_0, (recs_1, (most_2, i_9))), m0) some = qbx_B0 n l_0 recs_1 most_2 i_9 m0 := by kernel_rfl
theorem qbx_f0 (n : Nat) : LoopFact tab (qbx_tbl n) (qbx_loops n) qbx_an [] n 0 qbx_l0 (qbx_L0 n) := ⟨[0, 1, 2, 8, 9], (fun s => qbx_B0 n s.1.1 s.1.2.1 s.1.2.2.1 s.1.2.2.2 s.2), by kernel_rfl, by kernel_rfl, fun s => rfl, fun s => qbx_r0 n s.1.1 s.1.2.1 s.1.2.2.1 s.1.2.2.2 s.2⟩
theorem qbx_run (n : Nat) (l_0 : DA) (recs_1 : Int) (most_2 : Int) : funDS (real _) tab (qbx_tbl n) (qbx_loops n) qbx_an Try.f47 0 qbx_a qbx_res (l_0, (recs_1, most_2)) some = qbx n l_0 recs_1 most_2 := by kernel_rfl
def qbx_E (n : Nat) : Entry := ⟨qbx_a, qbx_res, fun d => qbx n d.1 d.2.1 d.2.2⟩
theorem qbx_ok (n : Nat) : EOK Try.prog 47 (qbx_E n) :=
 EOK.ofS zc zb ze (tbl := qbx_tbl n) (loops := qbx_loops n) (an := qbx_an) (old := []) (n := n) (c := qbx_c) (fn := Try.f47) (TblOK.cons (AllE.cons (qch_ok n) AllE.nil) (TblOK.cons (AllE.cons (qcb_ok n) AllE.nil) (TblOK.cons (AllE.cons (qbz_ok n) AllE.nil) TblOK.nil))) (by kernel_rfl) (by kernel_rfl) (by kernel_rfl) (by kernel_rfl) (fun d => by kernel_rfl) (LT.cons (by kernel_rfl) (qbx_f0 n) LT.nil) (fun a => qbx_run n a.1 a.2.1 a.2.2)
def qbp_h0 : List StSh := [⟨.normal, [1, 4, 5, 6, 7], (.cons (.ptr 0 0 0 0) (.cons (.int .i64) (.cons .bool (.cons (.msw 1 0) (.cons (.int .i64) .nil))))), (.cons (.bcells 0 false 1 (.cons (.sl true false yA) (.cons (.sl true true yB) (.cons (.sl true true yC) (.cons (.sl true false (.int .u64)) (.cons (.sl true false .str) .nil)))))) (.cons (.bts 0 false false false (.int .u8)) .nil))⟩]
def qbp_o0 : List StSh := [⟨.exit 0, [1, 4, 5, 6], (.cons (.ptr 0 0 0 0) (.cons (.int .i64) (.cons .bool (.cons (.msw 1 0) .nil)))), (.cons (.bcells 0 false 1 (.cons (.sl true false yA) (.cons (.sl true true yB) (.cons (.sl true true yC) (.cons (.sl true false (.int .u64)) (.cons (.sl true false .str) .nil)))))) (.cons (.bts 0 false false false (.int .u8)) .nil))⟩]
def qbp_L0 (n : Nat) : LEntry := ⟨qbp_h0, qbp_o0, qbp_W0 n⟩
def qbt_an : Ann := { boxed := [(4, 3), (6, 5), (8, 5)] }
def qbt_c : Code := (match Try.f49.body with | some c => c | none => .skip)
def qbt_a : StSh := ⟨.normal, [0], (.cons (.agg (.cons (.int .i64) (.cons (.int .i64) (.cons (.int .i64) .nil)))) .nil), .nil⟩
def qcg_an : Ann := { live := [(0, [0, 3, 4])] }
def qcg_c : Code := (match Try.f101.body with | some c => c | none => .skip)
def qcg_l0 : Code := (match assoc 0 (loopsIn qcg_c 0) with | some c => c | none => .skip)
def qcg_a : StSh := ⟨.normal, [0], (.cons (.int .i64) .nil), .nil⟩
def qcg_h0 : List StSh := [⟨.normal, [0, 3, 4], (.cons (.int .i64) (.cons (.sl false false (.int .i64)) (.cons (.int .i64) .nil))), .nil⟩]
def qcg_o0 : List StSh := [⟨.ret, [2], (.cons (.int .i64) .nil), .nil⟩, ⟨.exit 0, [], .nil, .nil⟩]
def qcg_L0 (n : Nat) : LEntry := ⟨qcg_h0, qcg_o0, qcg_W0 n⟩
def qcg_res : List StSh := [⟨.ret, [0], (.cons (.int .i64) .nil), .nil⟩]
def qcg_tbl (n : Nat) : FuncId → List Entry := fun f => []
def qcg_loops (n : Nat) : Nat → Option LEntry := fun f => bif Nat.beq f 0 then some (qcg_L0 n) else none
theorem qcg_r0 (n : Nat) (op_0 : Int) (l_3 : DC) (i_4 : Int) : roundK (real _) tab (qcg_tbl n) (qcg_loops n) qcg_an [] qcg_l0 0 [0, 3, 4] qcg_h0 qcg_o0 (op_0, (l_3, i_4)) some = qcg_B0 n op_0 l_3 i_4 := by kernel_rfl
theorem qcg_f0 (n : Nat) : LoopFact tab (qcg_tbl n) (qcg_loops n) qcg_an [] n 0 qcg_l0 (qcg_L0 n) := ⟨[0, 3, 4], (fun s => qcg_B0 n s.1 s.2.1 s.2.2), by kernel_rfl, by kernel_rfl, fun s => rfl, fun s => qcg_r0 n s.1 s.2.1 s.2.2⟩
theorem qcg_run (n : Nat) (op_0 : Int) : funDS (real _) tab (qcg_tbl n) (qcg_loops n) qcg_an Try.f101 0 qcg_a qcg_res op_0 some = qcg n op_0 := by kernel_rfl
def qcg_E (n : Nat) : Entry := ⟨qcg_a, qcg_res, fun d => qcg n d⟩
theorem qcg_ok (n : Nat) : EOK Try.prog 101 (qcg_E n) :=
 EOK.ofS zc zb ze (tbl := qcg_tbl n) (loops := qcg_loops n) (an := qcg_an) (old := []) (n := n) (c := qcg_c) (fn := Try.f101) TblOK.nil (by kernel_rfl) (by kernel_rfl) (by kernel_rfl) (by kernel_rfl) (fun d => by kernel_rfl) (LT.cons (by kernel_rfl) (qcg_f0 n) LT.nil) (fun a => qcg_run n a)
def qbt_res : List StSh := [⟨.ret, [0], (.cons (.sl false false (.int .u8)) .nil), .nil⟩]
def qbt_tbl (n : Nat) : FuncId → List Entry := fun f => bif Nat.beq f 101 then [qcg_E n] else bif Nat.beq f 46 then [qch_E n] else []
def qbt_loops (n : Nat) : Nat → Option LEntry := fun f => none
theorem qbt_run (n : Nat) (t0 : Int) (t0_1 : Int) (t0_2 : Int) : funDS (real _) tab (qbt_tbl n) (qbt_loops n) qbt_an Try.f49 0 qbt_a qbt_res (t0, (t0_1, t0_2)) some = qbt n t0 t0_1 t0_2 := by kernel_rfl
def qbt_E (n : Nat) : Entry := ⟨qbt_a, qbt_res, fun d => qbt n d.1 d.2.1 d.2.2⟩
theorem qbt_ok (n : Nat) : EOK Try.prog 49 (qbt_E n) :=
 EOK.ofS zc zb ze (tbl := qbt_tbl n) (loops := qbt_loops n) (an := qbt_an) (old := []) (n := n) (c := qbt_c) (fn := Try.f49) (TblOK.cons (AllE.cons (qcg_ok n) AllE.nil) (TblOK.cons (AllE.cons (qch_ok n) AllE.nil) TblOK.nil)) (by kernel_rfl) (by kernel_rfl) (by kernel_rfl) (by kernel_rfl) (fun d => by kernel_rfl) LT.nil (fun a => qbt_run n a.1 a.2.1 a.2.2)
def qbp_h4 : List StSh := [⟨.normal, [1, 4, 5, 6, 10, 11, 12, 17], (.cons (.ptr 0 0 0 0) (.cons (.int .i64) (.cons .bool (.cons (.msw 1 0) (.cons (.msw 2 0) (.cons (.int .i64) (.cons (.ptr 3 0 0 0) (.cons (.int .i64) .nil)))))))), (.cons (.bcells 0 false 1 (.cons (.sl true false yA) (.cons (.sl true true yB) (.cons (.sl true true yC) (.cons (.sl true false (.int .u64)) (.cons (.sl true false .str) .nil)))))) (.cons (.bts 0 false false false (.int .u8)) (.cons (.bts 0 false false false (.int .u8)) (.cons (.bcells 0 false 1 (.cons (.sl true true yD) (.cons (.int .i64) (.cons (.int .i64) (.cons (.sl true true yD) (.cons (.sl true true yE) .nil)))))) .nil))))⟩]
def qbp_o4 : List StSh := [⟨.ret, [2, 3], (.cons (.sl false false (.int .u8)) (.cons .bool .nil)), (.cons (.bcells 0 false 1 (.cons (.sl true false yA) (.cons (.sl true true yB) (.cons (.sl true true yC) (.cons (.sl true false (.int .u64)) (.cons (.sl true false .str) .nil)))))) (.cons (.bts 0 false false false (.int .u8)) (.cons (.bts 0 false false false (.int .u8)) (.cons (.bcells 0 false 1 (.cons (.sl true true yD) (.cons (.int .i64) (.cons (.int .i64) (.cons (.sl true true yD) (.cons (.sl true true yE) .nil)))))) .nil))))⟩, ⟨.exit 4, [1, 4, 5, 6, 10, 11], (.cons (.ptr 0 0 0 0) (.cons (.int .i64) (.cons .bool (.cons (.msw 1 0) (.cons (.msw 2 0) (.cons (.int .i64) .nil)))))), (.cons (.bcells 0 false 1 (.cons (.sl true false yA) (.cons (.sl true true yB) (.cons (.sl true true yC) (.cons (.sl true false (.int .u64)) (.cons (.sl true false .str) .nil)))))) (.cons (.bts 0 false false false (.int .u8)) (.cons (.bts 0 false false false (.int .u8)) (.cons (.bcells 0 false 1 (.cons (.sl true true yD) (.cons (.int .i64) (.cons (.int .i64) (.cons (.sl true true yD) (.cons (.sl true true yE) .nil)))))) .nil))))⟩]
def qbp_L4 (n : Nat) : LEntry := ⟨qbp_h4, qbp_o4, qbp_W4 n⟩
def qbp_h2 : List StSh := [⟨.normal, [1, 4, 5, 6, 10, 11], (.cons (.ptr 0 0 0 0) (.cons (.int .i64) (.cons .bool (.cons (.msw 1 0) (.cons (.msw 2 0) (.cons (.int .i64) .nil)))))), (.cons (.bcells 0 false 1 (.cons (.sl true false yA) (.cons (.sl true true yB) (.cons (.sl true true yC) (.cons (.sl true false (.int .u64)) (.cons (.sl true false .str) .nil)))))) (.cons (.bts 0 false false false (.int .u8)) (.cons (.bts 0 false false false (.int .u8)) .nil)))⟩]
def qbp_o2 : List StSh := [⟨.ret, [2, 3], (.cons (.sl false false (.int .u8)) (.cons .bool .nil)), (.cons (.bcells 0 false 1 (.cons (.sl true false yA) (.cons (.sl true true yB) (.cons (.sl true true yC) (.cons (.sl true false (.int .u64)) (.cons (.sl true false .str) .nil)))))) (.cons (.bts 0 false false false (.int .u8)) (.cons (.bts 0 false false false (.int .u8)) (.cons (.bcells 0 false 1 (.cons (.sl true true yD) (.cons (.int .i64) (.cons (.int .i64) (.cons (.sl true true yD) (.cons (.sl true true yE) .nil)))))) .nil))))⟩, ⟨.exit 2, [1, 4, 5, 6, 10], (.cons (.ptr 0 0 0 0) (.cons (.int .i64) (.cons .bool (.cons (.msw 1 0) (.cons (.msw 2 0) .nil))))), (.cons (.bcells 0 false 1 (.cons (.sl true false yA) (.cons (.sl true true yB) (.cons (.sl true true yC) (.cons (.sl true false (.int .u64)) (.cons (.sl true false .str) .nil)))))) (.cons (.bts 0 false false false (.int .u8)) (.cons (.bts 0 false false false (.int .u8)) .nil)))⟩]
def qbp_L2 (n : Nat) : LEntry := ⟨qbp_h2, qbp_o2, qbp_W2 n⟩
def qbp_h6 : List StSh := [⟨.normal, [1, 4, 5, 6, 10, 19, 20], (.cons (.ptr 0 0 0 0) (.cons (.int .i64) (.cons .bool (.cons (.msw 1 0) (.cons (.msw 2 0) (.cons (.msw 3 0) (.cons (.int .i64) .nil))))))), (.cons (.bcells 0 false 1 (.cons (.sl true false yA) (.cons (.sl true true yB) (.cons (.sl true true yC) (.cons (.sl true false (.int .u64)) (.cons (.sl true false .str) .nil)))))) (.cons (.bts 0 false false false (.int .u8)) (.cons (.bts 0 false false false (.int .u8)) (.cons (.bts 0 false false false (.int .u8)) .nil))))⟩]
def qbp_o6 : List StSh := [⟨.exit 6, [1, 5, 6, 10, 19], (.cons (.ptr 0 0 0 0) (.cons .bool (.cons (.msw 1 0) (.cons (.msw 2 0) (.cons (.msw 3 0) .nil))))), (.cons (.bcells 0 false 1 (.cons (.sl true false yA) (.cons (.sl true true yB) (.cons (.sl true true yC) (.cons (.sl true false (.int .u64)) (.cons (.sl true false .str) .nil)))))) (.cons (.bts 0 false false false (.int .u8)) (.cons (.bts 0 false false false (.int .u8)) (.cons (.bts 0 false false false (.int .u8)) .nil))))⟩]
def qbp_L6 (n : Nat) : LEntry := ⟨qbp_h6, qbp_o6, qbp_W6 n⟩
def qbv_an : Ann := { live := [(0, [0, 1, 5, 6])], boxed := [(1, 0), (5, 5)] }
def qbv_c : Code := (match Try.f50.body with | some c => c | none => .skip)
def qbv_l0 : Code := (match assoc 0 (loopsIn qbv_c 0) with | some c => c | none => .skip)
def qbv_a : StSh := ⟨.normal, [0, 1], (.cons (.int .u64) (.cons (.int .i64) .nil)), .nil⟩
def qbv_h0 : List StSh := [⟨.normal, [0, 1, 5, 6], (.cons (.int .u64) (.cons (.int .i64) (.cons (.msw 0 0) (.cons (.int .i64) .nil)))), (.cons (.bts 0 false false false (.int .u8)) .nil)⟩]
def qbv_o0 : List StSh := [⟨.exit 0, [5], (.cons (.msw 0 0) .nil), (.cons (.bts 0 false false false (.int .u8)) .nil)⟩]
def qbv_L0 (n : Nat) : LEntry := ⟨qbv_h0, qbv_o0, qbv_W0 n⟩
def qbv_res : List StSh := [⟨.ret, [0], (.cons (.sl false false (.int .u8)) .nil), .nil⟩]
def qbv_tbl (n : Nat) : FuncId → List Entry := fun f => []
def qbv_loops (n : Nat) : Nat → Option LEntry := fun f => bif Nat.beq f 0 then some (qbv_L0 n) else none
theorem qbv_r0 (n : Nat) (v_0 : Int) (n_1 : Int) (k_6 : Int) (m0 : DC) : roundK (real _) tab (qbv_tbl n) (qbv_loops n) qbv_an [] qbv_l0 0 [0, 1, 5, 6] qbv_h0 qbv_o0 ((v_0, (n_1, k_6)), m0) some = qbv_B0 n v_0 n_1 k_6 m0 := by kernel_rfl
theorem qbv_f0 (n : Nat) : LoopFact tab (qbv_tbl n) (qbv_loops n) qbv_an [] n 0 qbv_l0 (qbv_L0 n) := ⟨[0, 1, 5, 6], (fun s => qbv_B0 n s.1.1 s.1.2.1 s.1.2.2 s.2), by kernel_rfl, by kernel_rfl, fun s => rfl, fun s => qbv_r0 n s.1.1 s.1.2.1 s.1.2.2 s.2⟩
theorem qbv_run (n : Nat) (v_0 : Int) (n_1 : Int) : funDS (real _) tab (qbv_tbl n) (qbv_loops n) qbv_an Try.f50 0 qbv_a qbv_res (v_0, n_1) some = qbv n v_0 n_1 := by kernel_rfl
def qbv_E (n : Nat) : Entry := ⟨qbv_a, qbv_res, fun d => qbv n d.1 d.2⟩
theorem qbv_ok (n : Nat) : EOK Try.prog 50 (qbv_E n) :=
 EOK.ofS zc zb ze (tbl := qbv_tbl n) (loops := qbv_loops n) (an := qbv_an) (old := []) (n := n) (c := qbv_c) (fn := Try.f50) TblOK.nil (by kernel_rfl) (by kernel_rfl) (by kernel_rfl) (by kernel_rfl) (fun d => by kernel_rfl) (LT.cons (by kernel_rfl) (qbv_f0 n) LT.nil) (fun a => qbv_run n a.1 a.2)
def qbp_h8 : List StSh := [⟨.normal, [1, 5, 6, 10, 19, 23, 24], (.cons (.ptr 0 0 0 0) (.cons .bool (.cons (.msw 1 0) (.cons (.msw 2 0) (.cons (.msw 3 0) (.cons (.msw 4 0) (.cons (.int .i64) .nil))))))), (.cons (.bcells 0 false 1 (.cons (.sl true false yA) (.cons (.sl true true yB) (.cons (.sl true true yC) (.cons (.sl true false (.int .u64)) (.cons (.sl true false .str) .nil)))))) (.cons (.bts 0 false false false (.int .u8)) (.cons (.bts 0 false false false (.int .u8)) (.cons (.bts 0 false false false (.int .u8)) (.cons (.bts 0 false false false (.int .u8)) .nil)))))⟩]
def qbp_o8 : List StSh := [⟨.exit 8, [1, 5, 6, 10, 19, 23], (.cons (.ptr 0 0 0 0) (.cons .bool (.cons (.msw 1 0) (.cons (.msw 2 0) (.cons (.msw 3 0) (.cons (.msw 4 0) .nil)))))), (.cons (.bcells 0 false 1 (.cons (.sl true false yA) (.cons (.sl true true yB) (.cons (.sl true true yC) (.cons (.sl true false (.int .u64)) (.cons (.sl true false .str) .nil)))))) (.cons (.bts 0 false false false (.int .u8)) (.cons (.bts 0 false false false (.int .u8)) (.cons (.bts 0 false false false (.int .u8)) (.cons (.bts 0 false false false (.int .u8)) .nil)))))⟩]
def qbp_L8 (n : Nat) : LEntry := ⟨qbp_h8, qbp_o8, qbp_W8 n⟩
def qbp_h10 : List StSh := [⟨.normal, [1, 5, 6, 10, 19, 23, 25, 26], (.cons (.ptr 0 0 0 0) (.cons .bool (.cons (.msw 1 0) (.cons (.msw 2 0) (.cons (.msw 3 0) (.cons (.msw 4 0) (.cons (.msw 5 0) (.cons (.int .i64) .nil)))))))), (.cons (.bcells 0 false 1 (.cons (.sl true false yA) (.cons (.sl true true yB) (.cons (.sl true true yC) (.cons (.sl true false (.int .u64)) (.cons (.sl true false .str) .nil)))))) (.cons (.bts 0 false false false (.int .u8)) (.cons (.bts 0 false false false (.int .u8)) (.cons (.bts 0 false false false (.int .u8)) (.cons (.bts 0 false false false (.int .u8)) (.cons (.bts 0 false false false (.int .u8)) .nil))))))⟩]
def qbp_o10 : List StSh := [⟨.exit 10, [5, 6, 10, 19, 23, 25], (.cons .bool (.cons (.msw 1 0) (.cons (.msw 2 0) (.cons (.msw 3 0) (.cons (.msw 4 0) (.cons (.msw 5 0) .nil)))))), (.cons (.bcells 0 false 1 (.cons (.sl true false yA) (.cons (.sl true true yB) (.cons (.sl true true yC) (.cons (.sl true false (.int .u64)) (.cons (.sl true false .str) .nil)))))) (.cons (.bts 0 false false false (.int .u8)) (.cons (.bts 0 false false false (.int .u8)) (.cons (.bts 0 false false false (.int .u8)) (.cons (.bts 0 false false false (.int .u8)) (.cons (.bts 0 false false false (.int .u8)) .nil))))))⟩]
def qbp_L10 (n : Nat) : LEntry := ⟨qbp_h10, qbp_o10, qbp_W10 n⟩
def qca_an : Ann := { live := [(0, [0, 3, 4])], boxed := [(5, 8), (5, 13)], raw := [(1, 3)] }
def qca_c : Code := (match Try.f51.body with | some c => c | none => .skip)
def qca_l0 : Code := (match assoc 0 (loopsIn qca_c 0) with | some c => c | none => .skip)
def qca_a : StSh := ⟨.normal, [0], (.cons (.sl true false yF) .nil), .nil⟩
def qca_h0 : List StSh := [⟨.normal, [0, 3, 4], (.cons (.sl true false yF) (.cons (.msw 0 0) (.cons (.int .i64) .nil))), (.cons (.bts 0 false false false (.int .u8)) .nil)⟩]
def qca_o0 : List StSh := [⟨.exit 0, [3], (.cons (.msw 0 0) .nil), (.cons (.bts 0 false false false (.int .u8)) .nil)⟩]
def qca_L0 (n : Nat) : LEntry := ⟨qca_h0, qca_o0, qca_W0 n⟩
def qca_res : List StSh := [⟨.ret, [0], (.cons (.sl false false (.int .u8)) .nil), .nil⟩]
def qca_tbl (n : Nat) : FuncId → List Entry := fun f => bif Nat.beq f 46 then [qch_E n] else []
def qca_loops (n : Nat) : Nat → Option LEntry := fun f => bif Nat.beq f 0 then some (qca_L0 n) else none
theorem qca_r0 (n : Nat) (l_0 : DK) (i_4 : Int) (m0 : DC) : roundK (real _) tab (qca_tbl n) (qca_loops n) qca_an [] qca_l0 0 [0, 3, 4] qca_h0 qca_o0 ((l_0, i_4), m0) some = qca_B0 n l_0 i_4 m0 := by kernel_rfl
theorem qca_f0 (n : Nat) : LoopFact tab (qca_tbl n) (qca_loops n) qca_an [] n 0 qca_l0 (qca_L0 n) := ⟨[0, 3, 4], (fun s => qca_B0 n s.1.1 s.1.2 s.2), by kernel_rfl, by kernel_rfl, fun s => rfl, fun s => qca_r0 n s.1.1 s.1.2 s.2⟩
theorem qca_run (n : Nat) (l_0 : DK) : funDS (real _) tab (qca_tbl n) (qca_loops n) qca_an Try.f51 0 qca_a qca_res l_0 some = qca n l_0 := by kernel_rfl
def qca_E (n : Nat) : Entry := ⟨qca_a, qca_res, fun d => qca n d⟩
theorem qca_ok (n : Nat) : EOK Try.prog 51 (qca_E n) :=
 EOK.ofS zc zb ze (tbl := qca_tbl n) (loops := qca_loops n) (an := qca_an) (old := []) (n := n) (c := qca_c) (fn := Try.f51) (TblOK.cons (AllE.cons (qch_ok n) AllE.nil) TblOK.nil) (by kernel_rfl) (by kernel_rfl) (by kernel_rfl) (by kernel_rfl) (fun d => by kernel_rfl) (LT.cons (by kernel_rfl) (qca_f0 n) LT.nil) (fun a => qca_run n a)
def qbp_res : List StSh := [⟨.ret, [0], (.cons (.tup (.cons (.sl false false (.int .u8)) (.cons .bool .nil))) .nil), .nil⟩]
def qbp_tbl (n : Nat) : FuncId → List Entry := fun f => bif Nat.beq f 46 then [qch_E n] else bif Nat.beq f 47 then [qbx_E n] else bif Nat.beq f 18 then [qcb_E n] else bif Nat.beq f 48 then [qbz_E n] else bif Nat.beq f 49 then [qbt_E n] else bif Nat.beq f 50 then [qbv_E n] else bif Nat.beq f 51 then [qca_E n] else []
def qbp_loops (n : Nat) : Nat → Option LEntry := fun f => bif Nat.beq f 0 then some (qbp_L0 n) else bif Nat.beq f 4 then some (qbp_L4 n) else bif Nat.beq f 2 then some (qbp_L2 n) else bif Nat.beq f 6 then some (qbp_L6 n) else bif Nat.beq f 8 then some (qbp_L8 n) else bif Nat.beq f 10 then some (qbp_L10 n) else none
theorem qbp_r0 (n : Nat) (t4 : Int) (t5 : Bool) (t7 : Int) (m0 : DH) (m0_1 : DI) (m0_2 : DJ) (m0_3 : DC) (m0_4 : DD) (m1 : DC) : roundK (real _) tab (qbp_tbl n) (qbp_loops n) qbp_an [] qbp_l0 0 [1, 4, 5, 6, 7] qbp_h0 qbp_o0 ((t4, (t5, t7)), ((m0, (m0_1, (m0_2, (m0_3, m0_4)))), m1)) some = qbp_B0 n t4 t5 t7 m0 m0_1 m0_2 m0_3 m0_4 m1 := by kernel_rfl
theorem qbp_f0 (n : Nat) : LoopFact tab (qbp_tbl n) (qbp_loops n) qbp_an [] n 0 qbp_l0 (qbp_L0 n) := ⟨[1, 4, 5, 6, 7], (fun s => qbp_B0 n s.1.1 s.1.2.1 s.1.2.2 s.2.1.1 s.2.1.2.1 s.2.1.2.2.1 s.2.1.2.2.2.1 s.2.1.2.2.2.2 s.2.2), by kernel_rfl, by kernel_rfl, fun s => rfl, fun s => qbp_r0 n s.1.1 s.1.2.1 s.1.2.2 s.2.1.1 s.2.1.2.1 s.2.1.2.2.1 s.2.1.2.2.2.1 s.2.1.2.2.2.2 s.2.2⟩
theorem qbp_r4 (n : Nat) (t4 : Int) (t5 : Bool) (t11 : Int) (t17 : Int) (m0 : DH) (m0_1 : DI) (m0_2 : DJ) (m0_3 : DC) (m0_4 : DD) (m1 : DC) (m2 : DC) (m3 : DA) (m3_1 : Int) (m3_2 : Int) (m3_3 : DA) (m3_4 : DB) : roundK (real _) tab (qbp_tbl n) (qbp_loops n) qbp_an [] qbp_l4 4 [1, 4, 5, 6, 10, 11, 12, 17] qbp_h4 qbp_o4 ((t4, (t5, (t11, t17))), ((m0, (m0_1, (m0_2, (m0_3, m0_4)))), (m1, (m2, (m3, (m3_1, (m3_2, (m3_3, m3_4)))))))) some = qbp_B4 n t4 t5 t11 t17 m0 m0_1 m0_2 m0_3 m0_4 m1 m2 m3 m3_1 m3_2 m3_3 m3_4 := by kernel_rfl
theorem qbp_f4 (n : Nat) : LoopFact tab (qbp_tbl n) (qbp_loops n) qbp_an [] n 4 qbp_l4 (qbp_L4 n) := ⟨[1, 4, 5, 6, 10, 11, 12, 17], (fun s => qbp_B4 n s.1.1 s.1.2.1 s.1.2.2.1 s.1.2.2.2 s.2.1.1 s.2.1.2.1 s.2.1.2.2.1 s.2.1.2.2.2.1 s.2.1.2.2.2.2 s.2.2.1 s.2.2.2.1 s.2.2.2.2.1 s.2.2.2.2.2.1 s.2.2.2.2.2.2.1 s.2.2.2.2.2.2.2.1 s.2.2.2.2.2.2.2.2), by kernel_rfl, by kernel_rfl, fun s => rfl, fun s => qbp_r4 n s.1.1 s.1.2.1 s.1.2.2.1 s.1.2.2.2 s.2.1.1 s.2.1.2.1 s.2.1.2.2.1 s.2.1.2.2.2.1 s.2.1.2.2.2.2 s.2.2.1 s.2.2.2.1 s.2.2.2.2.1 s.2.2.2.2.2.1 s.2.2.2.2.2.2.1 s.2.2.2.2.2.2.2.1 s.2.2.2.2.2.2.2.2⟩
theorem qbp_r2 (n : Nat) (t4 : Int) (t5 : Bool) (t11 : Int) (m0 : DH) (m0_1 : DI) (m0_2 : DJ) (m0_3 : DC) (m0_4 : DD) (m1 : DC) (m2 : DC) : roundK (real _) tab (qbp_tbl n) (qbp_loops n) qbp_an [] qbp_l2 2 [1, 4, 5, 6, 10, 11] qbp_h2 qbp_o2 ((t4, (t5, t11)), ((m0, (m0_1, (m0_2, (m0_3, m0_4)))), (m1, m2))) some = qbp_B2 n t4 t5 t11 m0 m0_1 m0_2 m0_3 m0_4 m1 m2 := by kernel_rfl
theorem qbp_f2 (n : Nat) : LoopFact tab (qbp_tbl n) (qbp_loops n) qbp_an [] n 2 qbp_l2 (qbp_L2 n) := ⟨[1, 4, 5, 6, 10, 11], (fun s => qbp_B2 n s.1.1 s.1.2.1 s.1.2.2 s.2.1.1 s.2.1.2.1 s.2.1.2.2.1 s.2.1.2.2.2.1 s.2.1.2.2.2.2 s.2.2.1 s.2.2.2), by kernel_rfl, by kernel_rfl, fun s => rfl, fun s => qbp_r2 n s.1.1 s.1.2.1 s.1.2.2 s.2.1.1 s.2.1.2.1 s.2.1.2.2.1 s.2.1.2.2.2.1 s.2.1.2.2.2.2 s.2.2.1 s.2.2.2⟩
theorem qbp_r6 (n : Nat) (t4 : Int) (t5 : Bool) (t20 : Int) (m0 : DH) (m0_1 : DI) (m0_2 : DJ) (m0_3 : DC) (m0_4 : DD) (m1 : DC) (m2 : DC) (m3 : DC) : roundK (real _) tab (qbp_tbl n) (qbp_loops n) qbp_an [] qbp_l6 6 [1, 4, 5, 6, 10, 19, 20] qbp_h6 qbp_o6 ((t4, (t5, t20)), ((m0, (m0_1, (m0_2, (m0_3, m0_4)))), (m1, (m2, m3)))) some = qbp_B6 n t4 t5 t20 m0 m0_1 m0_2 m0_3 m0_4 m1 m2 m3 := by kernel_rfl
theorem qbp_f6 (n : Nat) : LoopFact tab (qbp_tbl n) (qbp_loops n) qbp_an [] n 6 qbp_l6 (qbp_L6 n) := ⟨[1, 4, 5, 6, 10, 19, 20], (fun s => qbp_B6 n s.1.1 s.1.2.1 s.1.2.2 s.2.1.1 s.2.1.2.1 s.2.1.2.2.1 s.2.1.2.2.2.1 s.2.1.2.2.2.2 s.2.2.1 s.2.2.2.1 s.2.2.2.2), by kernel_rfl, by kernel_rfl, fun s => rfl, fun s => qbp_r6 n s.1.1 s.1.2.1 s.1.2.2 s.2.1.1 s.2.1.2.1 s.2.1.2.2.1 s.2.1.2.2.2.1 s.2.1.2.2.2.2 s.2.2.1 s.2.2.2.1 s.2.2.2.2⟩
theorem qbp_r8 (n : Nat) (t5 : Bool) (t24 : Int) (m0 : DH) (m0_1 : DI) (m0_2 : DJ) (m0_3 : DC) (m0_4 : DD) (m1 : DC) (m2 : DC) (m3 : DC) (m4 : DC) : roundK (real _) tab (qbp_tbl n) (qbp_loops n) qbp_an [] qbp_l8 8 [1, 5, 6, 10, 19, 23, 24] qbp_h8 qbp_o8 ((t5, t24), ((m0, (m0_1, (m0_2, (m0_3, m0_4)))), (m1, (m2, (m3, m4))))) some = qbp_B8 n t5 t24 m0 m0_1 m0_2 m0_3 m0_4 m1 m2 m3 m4 := by kernel_rfl
theorem qbp_f8 (n : Nat) : LoopFact tab (qbp_tbl n) (qbp_loops n) qbp_an [] n 8 qbp_l8 (qbp_L8 n) := ⟨[1, 5, 6, 10, 19, 23, 24], (fun s => qbp_B8 n s.1.1 s.1.2 s.2.1.1 s.2.1.2.1 s.2.1.2.2.1 s.2.1.2.2.2.1 s.2.1.2.2.2.2 s.2.2.1 s.2.2.2.1 s.2.2.2.2.1 s.2.2.2.2.2), by kernel_rfl, by kernel_rfl, fun s => rfl, fun s => qbp_r8 n s.1.1 s.1.2 s.2.1.1 s.2.1.2.1 s.2.1.2.2.1 s.2.1.2.2.2.1 s.2.1.2.2.2.2 s.2.2.1 s.2.2.2.1 s.2.2.2.2.1 s.2.2.2.2.2⟩
theorem qbp_r10 (n : Nat) (t5 : Bool) (t26 : Int) (m0 : DH) (m0_1 : DI) (m0_2 : DJ) (m0_3 : DC) (m0_4 : DD) (m1 : DC) (m2 : DC) (m3 : DC) (m4 : DC) (m5 : DC) : roundK (real _) tab (qbp_tbl n) (qbp_loops n) qbp_an [] qbp_l10 10 [1, 5, 6, 10, 19, 23, 25, 26] qbp_h10 qbp_o10 ((t5, t26), ((m0, (m0_1, (m0_2, (m0_3, m0_4)))), (m1, (m2, (m3, (m4, m5)))))) some = qbp_B10 n t5 t26 m0 m0_1 m0_2 m0_3 m0_4 m1 m2 m3 m4 m5 := by kernel_rfl
theorem qbp_f10 (n : Nat) : LoopFact tab (qbp_tbl n) (qbp_loops n) qbp_an [] n 10 qbp_l10 (qbp_L10 n) := ⟨[1, 5, 6, 10, 19, 23, 25, 26], (fun s => qbp_B10 n s.1.1 s.1.2 s.2.1.1 s.2.1.2.1 s.2.1.2.2.1 s.2.1.2.2.2.1 s.2.1.2.2.2.2 s.2.2.1 s.2.2.2.1 s.2.2.2.2.1 s.2.2.2.2.2.1 s.2.2.2.2.2.2), by kernel_rfl, by kernel_rfl, fun s => rfl, fun s => qbp_r10 n s.1.1 s.1.2 s.2.1.1 s.2.1.2.1 s.2.1.2.2.1 s.2.1.2.2.2.1 s.2.1.2.2.2.2 s.2.2.1 s.2.2.2.1 s.2.2.2.2.1 s.2.2.2.2.2.1 s.2.2.2.2.2.2⟩
theorem qbp_run (n : Nat) (t0 : DH) (t0_1 : DI) (t0_2 : DJ) (t0_3 : DC) (t0_4 : DD) : funDS (real _) tab (qbp_tbl n) (qbp_loops n) qbp_an Try.f21 0 qbp_a qbp_res (t0, (t0_1, (t0_2, (t0_3, t0_4)))) some = qbp n t0 t0_1 t0_2 t0_3 t0_4 := by kernel_rfl
def qbp_E (n : Nat) : Entry := ⟨qbp_a, qbp_res, fun d => qbp n d.1 d.2.1 d.2.2.1 d.2.2.2.1 d.2.2.2.2⟩
theorem qbp_ok (n : Nat) : EOK Try.prog 21 (qbp_E n) :=
 EOK.ofS zc zb ze (tbl := qbp_tbl n) (loops := qbp_loops n) (an := qbp_an) (old := []) (n := n) (c := qbp_c) (fn := Try.f21) (TblOK.cons (AllE.cons (qch_ok n) AllE.nil) (TblOK.cons (AllE.cons (qbx_ok n) AllE.nil) (TblOK.cons (AllE.cons (qcb_ok n) AllE.nil) (TblOK.cons (AllE.cons (qbz_ok n) AllE.nil) (TblOK.cons (AllE.cons (qbt_ok n) AllE.nil) (TblOK.cons (AllE.cons (qbv_ok n) AllE.nil) (TblOK.cons (AllE.cons (qca_ok n) AllE.nil) TblOK.nil))))))) (by kernel_rfl) (by kernel_rfl) (by kernel_rfl) (by kernel_rfl) (fun d => by kernel_rfl) (LT.cons (by kernel_rfl) (qbp_f0 n) (LT.cons (by kernel_rfl) (qbp_f4 n) (LT.cons (by kernel_rfl) (qbp_f2 n) (LT.cons (by kernel_rfl) (qbp_f6 n) (LT.cons (by kernel_rfl) (qbp_f8 n) (LT.cons (by kernel_rfl) (qbp_f10 n) LT.nil)))))) (fun a => qbp_run n a.1 a.2.1 a.2.2.1 a.2.2.2.1 a.2.2.2.2)
def qcf_an : Ann := { live := [(0, [0, 1, 5])] }
def qcf_c : Code := (match Try.f24.body with | some c => c | none => .skip)
def qcf_l0 : Code := (match assoc 0 (loopsIn qcf_c 0) with | some c => c | none => .skip)
def qcf_a : StSh := ⟨.normal, [0, 1], (.cons (.sl true false (.int .u8)) (.cons (.sl true false (.int .u8)) .nil)), .nil⟩
def qcf_h0 : List StSh := [⟨.normal, [0, 1, 5], (.cons (.sl true false (.int .u8)) (.cons (.sl true false (.int .u8)) (.cons (.int .i64) .nil))), .nil⟩]
def qcf_o0 : List StSh := [⟨.ret, [4], (.cons .bool .nil), .nil⟩, ⟨.exit 0, [], .nil, .nil⟩]
def qcf_L0 (n : Nat) : LEntry := ⟨qcf_h0, qcf_o0, qcf_W0 n⟩
def qcf_res : List StSh := [⟨.ret, [0], (.cons .bool .nil), .nil⟩]
def qcf_tbl (n : Nat) : FuncId → List Entry := fun f => []
def qcf_loops (n : Nat) : Nat → Option LEntry := fun f => bif Nat.beq f 0 then some (qcf_L0 n) else none
theorem qcf_r0 (n : Nat) (a_0 : DC) (b_1 : DC) (i_5 : Int) : roundK (real _) tab (qcf_tbl n) (qcf_loops n) qcf_an [] qcf_l0 0 [0, 1, 5] qcf_h0 qcf_o0 (a_0, (b_1, i_5)) some = qcf_B0 n a_0 b_1 i_5 := by kernel_rfl
theorem qcf_f0 (n : Nat) : LoopFact tab (qcf_tbl n) (qcf_loops n) qcf_an [] n 0 qcf_l0 (qcf_L0 n) := ⟨[0, 1, 5], (fun s => qcf_B0 n s.1 s.2.1 s.2.2), by kernel_rfl, by kernel_rfl, fun s => rfl, fun s => qcf_r0 n s.1 s.2.1 s.2.2⟩
theorem qcf_run (n : Nat) (a_0 : DC) (b_1 : DC) : funDS (real _) tab (qcf_tbl n) (qcf_loops n) qcf_an Try.f24 0 qcf_a qcf_res (a_0, b_1) some = qcf n a_0 b_1 := by kernel_rfl
def qcf_E (n : Nat) : Entry := ⟨qcf_a, qcf_res, fun d => qcf n d.1 d.2⟩
theorem qcf_ok (n : Nat) : EOK Try.prog 24 (qcf_E n) :=
 EOK.ofS zc zb ze (tbl := qcf_tbl n) (loops := qcf_loops n) (an := qcf_an) (old := []) (n := n) (c := qcf_c) (fn := Try.f24) TblOK.nil (by kernel_rfl) (by kernel_rfl) (by kernel_rfl) (by kernel_rfl) (fun d => by kernel_rfl) (LT.cons (by kernel_rfl) (qcf_f0 n) LT.nil) (fun a => qcf_run n a.1 a.2)
def qt_an : Ann := { live := [(0, [2, 3, 5]), (2, [2, 3, 6]), (4, [2, 3, 6, 7, 8, 9]), (6, [2, 3, 10]), (8, [2, 3, 11]), (10, [2, 3, 12])] }
def qt_c : Code := (match Try.f25.body with | some c => c | none => .skip)
def qt_l0 : Code := (match assoc 0 (loopsIn qt_c 0) with | some c => c | none => .skip)
def qt_l2 : Code := (match assoc 2 (loopsIn qt_c 0) with | some c => c | none => .skip)
def qt_l4 : Code := (match assoc 4 (loopsIn qt_c 0) with | some c => c | none => .skip)
def qt_l6 : Code := (match assoc 6 (loopsIn qt_c 0) with | some c => c | none => .skip)
def qt_l8 : Code := (match assoc 8 (loopsIn qt_c 0) with | some c => c | none => .skip)
def qt_l10 : Code := (match assoc 10 (loopsIn qt_c 0) with | some c => c | none => .skip)
def qt_a : StSh := ⟨.normal, [0, 1], (.cons (.agg (.cons (.sl true false yA) (.cons (.sl true true yB) (.cons (.sl true true yC) (.cons (.sl true false (.int .u64)) (.cons (.sl true false .str) .nil)))))) (.cons (.agg (.cons (.sl true false yA) (.cons (.sl true true yB) (.cons (.sl true true yC) (.cons (.sl true false (.int .u64)) (.cons (.sl true false .str) .nil)))))) .nil)), .nil⟩
def qba_an : Ann := { live := [(0, [0, 1, 5])] }
def qba_c : Code := (match Try.f72.body with | some c => c | none => .skip)
def qba_l0 : Code := (match assoc 0 (loopsIn qba_c 0) with | some c => c | none => .skip)
def qba_a : StSh := ⟨.normal, [0, 1], (.cons (.sl true true yD) (.cons (.sl true true yD) .nil)), .nil⟩
def qba_h0 : List StSh := [⟨.normal, [0, 1, 5], (.cons (.sl true true yD) (.cons (.sl true true yD) (.cons (.int .i64) .nil))), .nil⟩]
def qba_o0 : List StSh := [⟨.ret, [4], (.cons .bool .nil), .nil⟩, ⟨.exit 0, [], .nil, .nil⟩]
def qba_L0 (n : Nat) : LEntry := ⟨qba_h0, qba_o0, qba_W0 n⟩
def qba_res : List StSh := [⟨.ret, [0], (.cons .bool .nil), .nil⟩]
def qba_tbl (n : Nat) : FuncId → List Entry := fun f => []
def qba_loops (n : Nat) : Nat → Option LEntry := fun f => bif Nat.beq f 0 then some (qba_L0 n) else none
theorem qba_r0 (n : Nat) (a_0 : DA) (b_1 : DA) (i_5 : Int) : roundK (real _) tab (qba_tbl n) (qba_loops n) qba_an [] qba_l0 0 [0, 1, 5] qba_h0 qba_o0 (a_0, (b_1, i_5)) some = qba_B0 n a_0 b_1 i_5 := by kernel_rfl
theorem qba_f0 (n : Nat) : LoopFact tab (qba_tbl n) (qba_loops n) qba_an [] n 0 qba_l0 (qba_L0 n) := ⟨[0, 1, 5], (fun s => qba_B0 n s.1 s.2.1 s.2.2), by kernel_rfl, by kernel_rfl, fun s => rfl, fun s => qba_r0 n s.1 s.2.1 s.2.2⟩
theorem qba_run (n : Nat) (a_0 : DA) (b_1 : DA) : funDS (real _) tab (qba_tbl n) (qba_loops n) qba_an Try.f72 0 qba_a qba_res (a_0, b_1) some = qba n a_0 b_1 := by kernel_rfl
def qba_E (n : Nat) : Entry := ⟨qba_a, qba_res, fun d => qba n d.1 d.2⟩
theorem qba_ok (n : Nat) : EOK Try.prog 72 (qba_E n) :=
 EOK.ofS zc zb ze (tbl := qba_tbl n) (loops := qba_loops n) (an := qba_an) (old := []) (n := n) (c := qba_c) (fn := Try.f72) TblOK.nil (by kernel_rfl) (by kernel_rfl) (by kernel_rfl) (by kernel_rfl) (fun d => by kernel_rfl) (LT.cons (by kernel_rfl) (qba_f0 n) LT.nil) (fun a => qba_run n a.1 a.2)
def qt_h0 : List StSh := [⟨.normal, [2, 3, 5], (.cons (.ptr 0 0 0 0) (.cons (.ptr 1 0 0 0) (.cons (.int .i64) .nil))), (.cons (.bcells 0 false 1 (.cons (.sl true false yA) (.cons (.sl true true yB) (.cons (.sl true true yC) (.cons (.sl true false (.int .u64)) (.cons (.sl true false .str) .nil)))))) (.cons (.bcells 0 false 1 (.cons (.sl true false yA) (.cons (.sl true true yB) (.cons (.sl true true yC) (.cons (.sl true false (.int .u64)) (.cons (.sl true false .str) .nil)))))) .nil))⟩]
def qt_o0 : List StSh := [⟨.ret, [4], (.cons .bool .nil), (.cons (.bcells 0 false 1 (.cons (.sl true false yA) (.cons (.sl true true yB) (.cons (.sl true true yC) (.cons (.sl true false (.int .u64)) (.cons (.sl true false .str) .nil)))))) (.cons (.bcells 0 false 1 (.cons (.sl true false yA) (.cons (.sl true true yB) (.cons (.sl true true yC) (.cons (.sl true false (.int .u64)) (.cons (.sl true false .str) .nil)))))) .nil))⟩, ⟨.exit 0, [2, 3], (.cons (.ptr 0 0 0 0) (.cons (.ptr 1 0 0 0) .nil)), (.cons (.bcells 0 false 1 (.cons (.sl true false yA) (.cons (.sl true true yB) (.cons (.sl true true yC) (.cons (.sl true false (.int .u64)) (.cons (.sl true false .str) .nil)))))) (.cons (.bcells 0 false 1 (.cons (.sl true false yA) (.cons (.sl true true yB) (.cons (.sl true true yC) (.cons (.sl true false (.int .u64)) (.cons (.sl true false .str) .nil)))))) .nil))⟩]
def qt_L0 (n : Nat) : LEntry := ⟨qt_h0, qt_o0, qt_W0 n⟩
def qt_h4 : List StSh := [⟨.normal, [2, 3, 6, 7, 8, 9], (.cons (.ptr 0 0 0 0) (.cons (.ptr 1 0 0 0) (.cons (.int .i64) (.cons (.ptr 2 0 0 0) (.cons (.ptr 3 0 0 0) (.cons (.int .i64) .nil)))))), (.cons (.bcells 0 false 1 (.cons (.sl true false yA) (.cons (.sl true true yB) (.cons (.sl true true yC) (.cons (.sl true false (.int .u64)) (.cons (.sl true false .str) .nil)))))) (.cons (.bcells 0 false 1 (.cons (.sl true false yA) (.cons (.sl true true yB) (.cons (.sl true true yC) (.cons (.sl true false (.int .u64)) (.cons (.sl true false .str) .nil)))))) (.cons (.bcells 0 false 1 (.cons (.sl true true yD) (.cons (.int .i64) (.cons (.int .i64) (.cons (.sl true true yD) (.cons (.sl true true yE) .nil)))))) (.cons (.bcells 0 false 1 (.cons (.sl true true yD) (.cons (.int .i64) (.cons (.int .i64) (.cons (.sl true true yD) (.cons (.sl true true yE) .nil)))))) .nil))))⟩]
def qt_o4 : List StSh := [⟨.ret, [4], (.cons .bool .nil), (.cons (.bcells 0 false 1 (.cons (.sl true false yA) (.cons (.sl true true yB) (.cons (.sl true true yC) (.cons (.sl true false (.int .u64)) (.cons (.sl true false .str) .nil)))))) (.cons (.bcells 0 false 1 (.cons (.sl true false yA) (.cons (.sl true true yB) (.cons (.sl true true yC) (.cons (.sl true false (.int .u64)) (.cons (.sl true false .str) .nil)))))) (.cons (.bcells 0 false 1 (.cons (.sl true true yD) (.cons (.int .i64) (.cons (.int .i64) (.cons (.sl true true yD) (.cons (.sl true true yE) .nil)))))) (.cons (.bcells 0 false 1 (.cons (.sl true true yD) (.cons (.int .i64) (.cons (.int .i64) (.cons (.sl true true yD) (.cons (.sl true true yE) .nil)))))) .nil))))⟩, ⟨.exit 4, [2, 3, 6], (.cons (.ptr 0 0 0 0) (.cons (.ptr 1 0 0 0) (.cons (.int .i64) .nil))), (.cons (.bcells 0 false 1 (.cons (.sl true false yA) (.cons (.sl true true yB) (.cons (.sl true true yC) (.cons (.sl true false (.int .u64)) (.cons (.sl true false .str) .nil)))))) (.cons (.bcells 0 false 1 (.cons (.sl true false yA) (.cons (.sl true true yB) (.cons (.sl true true yC) (.cons (.sl true false (.int .u64)) (.cons (.sl true false .str) .nil)))))) (.cons (.bcells 0 false 1 (.cons (.sl true true yD) (.cons (.int .i64) (.cons (.int .i64) (.cons (.sl true true yD) (.cons (.sl true true yE) .nil)))))) (.cons (.bcells 0 false 1 (.cons (.sl true true yD) (.cons (.int .i64) (.cons (.int .i64) (.cons (.sl true true yD) (.cons (.sl true true yE) .nil)))))) .nil))))⟩]
def qt_L4 (n : Nat) : LEntry := ⟨qt_h4, qt_o4, qt_W4 n⟩
def qt_h2 : List StSh := [⟨.normal, [2, 3, 6], (.cons (.ptr 0 0 0 0) (.cons (.ptr 1 0 0 0) (.cons (.int .i64) .nil))), (.cons (.bcells 0 false 1 (.cons (.sl true false yA) (.cons (.sl true true yB) (.cons (.sl true true yC) (.cons (.sl true false (.int .u64)) (.cons (.sl true false .str) .nil)))))) (.cons (.bcells 0 false 1 (.cons (.sl true false yA) (.cons (.sl true true yB) (.cons (.sl true true yC) (.cons (.sl true false (.int .u64)) (.cons (.sl true false .str) .nil)))))) .nil))⟩]
def qt_o2 : List StSh := [⟨.ret, [4], (.cons .bool .nil), (.cons (.bcells 0 false 1 (.cons (.sl true false yA) (.cons (.sl true true yB) (.cons (.sl true true yC) (.cons (.sl true false (.int .u64)) (.cons (.sl true false .str) .nil)))))) (.cons (.bcells 0 false 1 (.cons (.sl true false yA) (.cons (.sl true true yB) (.cons (.sl true true yC) (.cons (.sl true false (.int .u64)) (.cons (.sl true false .str) .nil)))))) (.cons (.bcells 0 false 1 (.cons (.sl true true yD) (.cons (.int .i64) (.cons (.int .i64) (.cons (.sl true true yD) (.cons (.sl true true yE) .nil)))))) (.cons (.bcells 0 false 1 (.cons (.sl true true yD) (.cons (.int .i64) (.cons (.int .i64) (.cons (.sl true true yD) (.cons (.sl true true yE) .nil)))))) .nil))))⟩, ⟨.exit 2, [2, 3], (.cons (.ptr 0 0 0 0) (.cons (.ptr 1 0 0 0) .nil)), (.cons (.bcells 0 false 1 (.cons (.sl true false yA) (.cons (.sl true true yB) (.cons (.sl true true yC) (.cons (.sl true false (.int .u64)) (.cons (.sl true false .str) .nil)))))) (.cons (.bcells 0 false 1 (.cons (.sl true false yA) (.cons (.sl true true yB) (.cons (.sl true true yC) (.cons (.sl true false (.int .u64)) (.cons (.sl true false .str) .nil)))))) .nil))⟩]
def qt_L2 (n : Nat) : LEntry := ⟨qt_h2, qt_o2, qt_W2 n⟩
def qt_h6 : List StSh := [⟨.normal, [2, 3, 10], (.cons (.ptr 0 0 0 0) (.cons (.ptr 1 0 0 0) (.cons (.int .i64) .nil))), (.cons (.bcells 0 false 1 (.cons (.sl true false yA) (.cons (.sl true true yB) (.cons (.sl true true yC) (.cons (.sl true false (.int .u64)) (.cons (.sl true false .str) .nil)))))) (.cons (.bcells 0 false 1 (.cons (.sl true false yA) (.cons (.sl true true yB) (.cons (.sl true true yC) (.cons (.sl true false (.int .u64)) (.cons (.sl true false .str) .nil)))))) .nil))⟩]
def qt_o6 : List StSh := [⟨.ret, [4], (.cons .bool .nil), (.cons (.bcells 0 false 1 (.cons (.sl true false yA) (.cons (.sl true true yB) (.cons (.sl true true yC) (.cons (.sl true false (.int .u64)) (.cons (.sl true false .str) .nil)))))) (.cons (.bcells 0 false 1 (.cons (.sl true false yA) (.cons (.sl true true yB) (.cons (.sl true true yC) (.cons (.sl true false (.int .u64)) (.cons (.sl true false .str) .nil)))))) .nil))⟩, ⟨.exit 6, [2, 3], (.cons (.ptr 0 0 0 0) (.cons (.ptr 1 0 0 0) .nil)), (.cons (.bcells 0 false 1 (.cons (.sl true false yA) (.cons (.sl true true yB) (.cons (.sl true true yC) (.cons (.sl true false (.int .u64)) (.cons (.sl true false .str) .nil)))))) (.cons (.bcells 0 false 1 (.cons (.sl true false yA) (.cons (.sl true true yB) (.cons (.sl true true yC) (.cons (.sl true false (.int .u64)) (.cons (.sl true false .str) .nil)))))) .nil))⟩]
def qt_L6 (n : Nat) : LEntry := ⟨qt_h6, qt_o6, qt_W6 n⟩
def qt_h8 : List StSh := [⟨.normal, [2, 3, 11], (.cons (.ptr 0 0 0 0) (.cons (.ptr 1 0 0 0) (.cons (.int .i64) .nil))), (.cons (.bcells 0 false 1 (.cons (.sl true false yA) (.cons (.sl true true yB) (.cons (.sl true true yC) (.cons (.sl true false (.int .u64)) (.cons (.sl true false .str) .nil)))))) (.cons (.bcells 0 false 1 (.cons (.sl true false yA) (.cons (.sl true true yB) (.cons (.sl true true yC) (.cons (.sl true false (.int .u64)) (.cons (.sl true false .str) .nil)))))) .nil))⟩]
def qt_o8 : List StSh := [⟨.ret, [4], (.cons .bool .nil), (.cons (.bcells 0 false 1 (.cons (.sl true false yA) (.cons (.sl true true yB) (.cons (.sl true true yC) (.cons (.sl true false (.int .u64)) (.cons (.sl true false .str) .nil)))))) (.cons (.bcells 0 false 1 (.cons (.sl true false yA) (.cons (.sl true true yB) (.cons (.sl true true yC) (.cons (.sl true false (.int .u64)) (.cons (.sl true false .str) .nil)))))) .nil))⟩, ⟨.exit 8, [2, 3], (.cons (.ptr 0 0 0 0) (.cons (.ptr 1 0 0 0) .nil)), (.cons (.bcells 0 false 1 (.cons (.sl true false yA) (.cons (.sl true true yB) (.cons (.sl true true yC) (.cons (.sl true false (.int .u64)) (.cons (.sl true false .str) .nil)))))) (.cons (.bcells 0 false 1 (.cons (.sl true false yA) (.cons (.sl true true yB) (.cons (.sl true true yC) (.cons (.sl true false (.int .u64)) (.cons (.sl true false .str) .nil)))))) .nil))⟩]
def qt_L8 (n : Nat) : LEntry := ⟨qt_h8, qt_o8, qt_W8 n⟩
def qt_h10 : List StSh := [⟨.normal, [2, 3, 12], (.cons (.ptr 0 0 0 0) (.cons (.ptr 1 0 0 0) (.cons (.int .i64) .nil))), (.cons (.bcells 0 false 1 (.cons (.sl true false yA) (.cons (.sl true true yB) (.cons (.sl true true yC) (.cons (.sl true false (.int .u64)) (.cons (.sl true false .str) .nil)))))) (.cons (.bcells 0 false 1 (.cons (.sl true false yA) (.cons (.sl true true yB) (.cons (.sl true true yC) (.cons (.sl true false (.int .u64)) (.cons (.sl true false .str) .nil)))))) .nil))⟩]
def qt_o10 : List StSh := [⟨.ret, [4], (.cons .bool .nil), (.cons (.bcells 0 false 1 (.cons (.sl true false yA) (.cons (.sl true true yB) (.cons (.sl true true yC) (.cons (.sl true false (.int .u64)) (.cons (.sl true false .str) .nil)))))) (.cons (.bcells 0 false 1 (.cons (.sl true false yA) (.cons (.sl true true yB) (.cons (.sl true true yC) (.cons (.sl true false (.int .u64)) (.cons (.sl true false .str) .nil)))))) .nil))⟩, ⟨.exit 10, [], .nil, (.cons (.bcells 0 false 1 (.cons (.sl true false yA) (.cons (.sl true true yB) (.cons (.sl true true yC) (.cons (.sl true false (.int .u64)) (.cons (.sl true false .str) .nil)))))) (.cons (.bcells 0 false 1 (.cons (.sl true false yA) (.cons (.sl true true yB) (.cons (.sl true true yC) (.cons (.sl true false (.int .u64)) (.cons (.sl true false .str) .nil)))))) .nil))⟩]
def qt_L10 (n : Nat) : LEntry := ⟨qt_h10, qt_o10, qt_W10 n⟩
def qt_res : List StSh := [⟨.ret, [0], (.cons .bool .nil), .nil⟩]
def qt_tbl (n : Nat) : FuncId → List Entry := fun f => bif Nat.beq f 72 then [qba_E n] else []
def qt_loops (n : Nat) : Nat → Option LEntry := fun f => bif Nat.beq f 0 then some (qt_L0 n) else bif Nat.beq f 4 then some (qt_L4 n) else bif Nat.beq f 2 then some (qt_L2 n) else bif Nat.beq f 6 then some (qt_L6 n) else bif Nat.beq f 8 then some (qt_L8 n) else bif Nat.beq f 10 then some (qt_L10 n) else none
theorem qt_r0 (n : Nat) (t5 : Int) (m0 : DH) (m0_1 : DI) (m0_2 : DJ) (m0_3 : DC) (m0_4 : DD) (m1 : DH) (m1_1 : DI) (m1_2 : DJ) (m1_3 : DC) (m1_4 : DD) : roundK (real _) tab (qt_tbl n) (qt_loops n) qt_an [] qt_l0 0 [2, 3, 5] qt_h0 qt_o0 (t5, ((m0, (m0_1, (m0_2, (m0_3, m0_4)))), (m1, (m1_1, (m1_2, (m1_3, m1_4)))))) some = qt_B0 n t5 m0 m0_1 m0_2 m0_3 m0_4 m1 m1_1 m1_2 m1_3 m1_4 := by kernel_rfl
theorem qt_f0 (n : Nat) : LoopFact tab (qt_tbl n) (qt_loops n) qt_an [] n 0 qt_l0 (qt_L0 n) := ⟨[2, 3, 5], (fun s => qt_B0 n s.1 s.2.1.1 s.2.1.2.1 s.2.1.2.2.1 s.2.1.2.2.2.1 s.2.1.2.2.2.2 s.2.2.1 s.2.2.2.1 s.2.2.2.2.1 s.2.2.2.2.2.1 s.2.2.2.2.2.2), by kernel_rfl, by kernel_rfl, fun s => rfl, fun s => qt_r0 n s.1 s.2.1.1 s.2.1.2.1 s.2.1.2.2.1 s.2.1.2.2.2.1 s.2.1.2.2.2.2 s.2.2.1 s.2.2.2.1 s.2.2.2.2.1 s.2.2.2.2.2.1 s.2.2.2.2.2.2⟩
theorem qt_r4 (n : Nat) (t6 : Int) (t9 : Int) (m0 : DH) (m0_1 : DI) (m0_2 : DJ) (m0_3 : DC) (m0_4 : DD) (m1 : DH) (m1_1 : DI) (m1_2 : DJ) (m1_3 : DC) (m1_4 : DD) (m2 : DA) (m2_1 : Int) (m2_2 : Int) (m2_3 : DA) (m2_4 : DB) (m3 : DA) (m3_1 : Int) (m3_2 : Int) (m3_3 : DA) (m3_4 : DB) : roundK (real _) tab (qt_tbl n) (qt_loops n) qt_an [] qt_l4 4 [2, 3, 6, 7, 8, 9] qt_h4 qt_o4 ((t6, t9), ((m0, (m0_1, (m0_2, (m0_3, m0_4)))), ((m1, (m1_1, (m1_2, (m1_3, m1_4)))), ((m2, (m2_1, (m2_2, (m2_3, m2_4)))), (m3, (m3_1, (m3_2, (m3_3, m3_4)))))))) some = qt_B4 n t6 t9 m0 m0_1 m0_2 m0_3 m0_4 m1 m1_1 m1_2 m1_3 m1_4 m2 m2_1 m2_2 m2_3 m2_4 m3 m3_1 m3_2 m3_3 m3_4 := by kernel_rfl
theorem qt_f4 (n : Nat) : LoopFact tab (qt_tbl n) (qt_loops n) qt_an [] n 4 qt_l4 (qt_L4 n) := ⟨[2, 3, 6, 7, 8, 9], (fun s => qt_B4 n s.1.1 s.1.2 s.2.1.1 s.2.1.2.1 s.2.1.2.2.1 s.2.1.2.2.2.1 s.2.1.2.2.2.2 s.2.2.1.1 s.2.2.1.2.1 s.2.2.1.2.2.1 s.2.2.1.2.2.2.1 s.2.2.1.2.2.2.2 s.2.2.2.1.1 s.2.2.2.1.2.1 s.2.2.2.1.2.2.1 s.2.2.2.1.2.2.2.1 s.2.2.2.1.2.2.2.2 s.2.2.2.2.1 s.2.2.2.2.2.1 s.2.2.2.2.2.2.1 s.2.2.2.2.2.2.2.1 s.2.2.2.2.2.2.2.2), by kernel_rfl, by kernel_rfl, fun s => rfl, fun s => qt_r4 n s.1.1 s.1.2 s.2.1.1 s.2.1.2.1 s.2.1.2.2.1 s.2.1.2.2.2.1 s.2.1.2.2.2.2 s.2.2.1.1 s.2.2.1.2.1 s.2.2.1.2.2.1 s.2.2.1.2.2.2.1 s.2.2.1.2.2.2.2 s.2.2.2.1.1 s.2.2.2.1.2.1 s.2.2.2.1.2.2.1 s.2.2.2.1.2.2.2.1 s.2.2.2.1.2.2.2.2 s.2.2.2.2.1 s.2.2.2.2.2.1 s.2.2.2.2.2.2.1 s.2.2.2.2.2.2.2.1 s.2.2.2.2.2.2.2.2⟩
theorem qt_r2 (n : Nat) (t6 : Int) (m0 : DH) (m0_1 : DI) (m0_2 : DJ) (m0_3 : DC) (m0_4 : DD) (m1 : DH) (m1_1 : DI) (m1_2 : DJ) (m1_3 : DC) (m1_4 : DD) : roundK (real _) tab (qt_tbl n) (qt_loops n) qt_an [] qt_l2 2 [2, 3, 6] qt_h2 qt_o2 (t6, ((m0, (m0_1, (m0_2, (m0_3, m0_4)))), (m1, (m1_1, (m1_2, (m1_3, m1_4)))))) some = qt_B2 n t6 m0 m0_1 m0_2 m0_3 m0_4 m1 m1_1 m1_2 m1_3 m1_4 := by kernel_rfl
theorem qt_f2 (n : Nat) : LoopFact tab (qt_tbl n) (qt_loops n) qt_an [] n 2 qt_l2 (qt_L2 n) := ⟨[2, 3, 6], (fun s => qt_B2 n s.1 s.2.1.1 s.2.1.2.1 s.2.1.2.2.1 s.2.1.2.2.2.1 s.2.1.2.2.2.2 s.2.2.1 s.2.2.2.1 s.2.2.2.2.1 s.2.2.2.2.2.1 s.2.2.2.2.2.2), by kernel_rfl, by kernel_rfl, fun s => rfl, fun s => qt_r2 n s.1 s.2.1.1 s.2.1.2.1 s.2.1.2.2.1 s.2.1.2.2.2.1 s.2.1.2.2.2.2 s.2.2.1 s.2.2.2.1 s.2.2.2.2.1 s.2.2.2.2.2.1 s.2.2.2.2.2.2⟩
theorem qt_r6 (n : Nat) (t10 : Int) (m0 : DH) (m0_1 : DI) (m0_2 : DJ) (m0_3 : DC) (m0_4 : DD) (m1 : DH) (m1_1 : DI) (m1_2 : DJ) (m1_3 : DC) (m1_4 : DD) : roundK (real _) tab (qt_tbl n) (qt_loops n) qt_an [] qt_l6 6 [2, 3, 10] qt_h6 qt_o6 (t10, ((m0, (m0_1, (m0_2, (m0_3, m0_4)))), (m1, (m1_1, (m1_2, (m1_3, m1_4)))))) some = qt_B6 n t10 m0 m0_1 m0_2 m0_3 m0_4 m1 m1_1 m1_2 m1_3 m1_4 := by kernel_rfl
theorem qt_f6 (n : Nat) : LoopFact tab (qt_tbl n) (qt_loops n) qt_an [] n 6 qt_l6 (qt_L6 n) := ⟨[2, 3, 10], (fun s => qt_B6 n s.1 s.2.1.1 s.2.1.2.1 s.2.1.2.2.1 s.2.1.2.2.2.1 s.2.1.2.2.2.2 s.2.2.1 s.2.2.2.1 s.2.2.2.2.1 s.2.2.2.2.2.1 s.2.2.2.2.2.2), by kernel_rfl, by kernel_rfl, fun s => rfl, fun s => qt_r6 n s.1 s.2.1.1 s.2.1.2.1 s.2.1.2.2.1 s.2.1.2.2.2.1 s.2.1.2.2.2.2 s.2.2.1 s.2.2.2.1 s.2.2.2.2.1 s.2.2.2.2.2.1 s.2.2.2.2.2.2⟩
theorem qt_r8 (n : Nat) (t11 : Int) (m0 : DH) (m0_1 : DI) (m0_2 : DJ) (m0_3 : DC) (m0_4 : DD) (m1 : DH) (m1_1 : DI) (m1_2 : DJ) (m1_3 : DC) (m1_4 : DD) : roundK (real _) tab (qt_tbl n) (qt_loops n) qt_an [] qt_l8 8 [2, 3, 11] qt_h8 qt_o8 (t11, ((m0, (m0_1, (m0_2, (m0_3, m0_4)))), (m1, (m1_1, (m1_2, (m1_3, m1_4)))))) some = qt_B8 n t11 m0 m0_1 m0_2 m0_3 m0_4 m1 m1_1 m1_2 m1_3 m1_4 := by kernel_rfl
theorem qt_f8 (n : Nat) : LoopFact tab (qt_tbl n) (qt_loops n) qt_an [] n 8 qt_l8 (qt_L8 n) := ⟨[2, 3, 11], (fun s => qt_B8 n s.1 s.2.1.1 s.2.1.2.1 s.2.1.2.2.1 s.2.1.2.2.2.1 s.2.1.2.2.2.2 s.2.2.1 s.2.2.2.1 s.2.2.2.2.1 s.2.2.2.2.2.1 s.2.2.2.2.2.2), by kernel_rfl, by kernel_rfl, fun s => rfl, fun s => qt_r8 n s.1 s.2.1.1 s.2.1.2.1 s.2.1.2.2.1 s.2.1.2.2.2.1 s.2.1.2.2.2.2 s.2.2.1 s.2.2.2.1 s.2.2.2.2.1 s.2.2.2.2.2.1 s.2.2.2.2.2.2⟩
theorem qt_r10 (n : Nat) (t12 : Int) (m0 : DH) (m0_1 : DI) (m0_2 : DJ) (m0_3 : DC) (m0_4 : DD) (m1 : DH) (m1_1 : DI) (m1_2 : DJ) (m1_3 : DC) (m1_4 : DD) : roundK (real _) tab (qt_tbl n) (qt_loops n) qt_an [] qt_l10 10 [2, 3, 12] qt_h10 qt_o10 (t12, ((m0, (m0_1, (m0_2, (m0_3, m0_4)))), (m1, (m1_1, (m1_2, (m1_3, m1_4)))))) some = qt_B10 n t12 m0 m0_1 m0_2 m0_3 m0_4 m1 m1_1 m1_2 m1_3 m1_4 := by kernel_rfl
theorem qt_f10 (n : Nat) : LoopFact tab (qt_tbl n) (qt_loops n) qt_an [] n 10 qt_l10 (qt_L10 n) := ⟨[2, 3, 12], (fun s => qt_B10 n s.1 s.2.1.1 s.2.1.2.1 s.2.1.2.2.1 s.2.1.2.2.2.1 s.2.1.2.2.2.2 s.2.2.1 s.2.2.2.1 s.2.2.2.2.1 s.2.2.2.2.2.1 s.2.2.2.2.2.2), by kernel_rfl, by kernel_rfl, fun s => rfl, fun s => qt_r10 n s.1 s.2.1.1 s.2.1.2.1 s.2.1.2.2.1 s.2.1.2.2.2.1 s.2.1.2.2.2.2 s.2.2.1 s.2.2.2.1 s.2.2.2.2.1 s.2.2.2.2.2.1 s.2.2.2.2.2.2⟩
theorem qt_run (n : Nat) (t0 : DH) (t0_1 : DI) (t0_2 : DJ) (t0_3 : DC) (t0_4 : DD) (t1 : DH) (t1_1 : DI) (t1_2 : DJ) (t1_3 : DC) (t1_4 : DD) : funDS (real _) tab (qt_tbl n) (qt_loops n) qt_an Try.f25 0 qt_a qt_res ((t0, (t0_1, (t0_2, (t0_3, t0_4)))), (t1, (t1_1, (t1_2, (t1_3, t1_4))))) some = qt n t0 t0_1 t0_2 t0_3 t0_4 t1 t1_1 t1_2 t1_3 t1_4 := by kernel_rfl
def qt_E (n : Nat) : Entry := ⟨qt_a, qt_res, fun d => qt n d.1.1 d.1.2.1 d.1.2.2.1 d.1.2.2.2.1 d.1.2.2.2.2 d.2.1 d.2.2.1 d.2.2.2.1 d.2.2.2.2.1 d.2.2.2.2.2⟩
theorem qt_ok (n : Nat) : EOK Try.prog 25 (qt_E n) :=
 EOK.ofS zc zb ze (tbl := qt_tbl n) (loops := qt_loops n) (an := qt_an) (old := []) (n := n) (c := qt_c) (fn := Try.f25) (TblOK.cons (AllE.cons (qba_ok n) AllE.nil) TblOK.nil) (by kernel_rfl) (by kernel_rfl) (by kernel_rfl) (by kernel_rfl) (fun d => by kernel_rfl) (LT.cons (by kernel_rfl) (qt_f0 n) (LT.cons (by kernel_rfl) (qt_f4 n) (LT.cons (by kernel_rfl) (qt_f2 n) (LT.cons (by kernel_rfl) (qt_f6 n) (LT.cons (by kernel_rfl) (qt_f8 n) (LT.cons (by kernel_rfl) (qt_f10 n) LT.nil)))))) (fun a => qt_run n a.1.1 a.1.2.1 a.1.2.2.1 a.1.2.2.2.1 a.1.2.2.2.2 a.2.1 a.2.2.1 a.2.2.2.1 a.2.2.2.2.1 a.2.2.2.2.2)
def qci_an : Ann := { live := [(0, [0, 3, 4]), (2, [0, 3, 4, 5])] }
def qci_c : Code := (match Try.f26.body with | some c => c | none => .skip)
def qci_l0 : Code := (match assoc 0 (loopsIn qci_c 0) with | some c => c | none => .skip)
def qci_l2 : Code := (match assoc 2 (loopsIn qci_c 0) with | some c => c | none => .skip)
def qci_a : StSh := ⟨.normal, [0], (.cons (.sl true false (.int .u8)) .nil), .nil⟩
def qci_h2 : List StSh := [⟨.normal, [0, 3, 4, 5], (.cons (.sl true false (.int .u8)) (.cons (.int .u32) (.cons (.int .i64) (.cons (.int .i64) .nil)))), .nil⟩]
def qci_o2 : List StSh := [⟨.exit 2, [0, 3, 4], (.cons (.sl true false (.int .u8)) (.cons (.int .u32) (.cons (.int .i64) .nil))), .nil⟩]
def qci_L2 (n : Nat) : LEntry := ⟨qci_h2, qci_o2, qci_W2 n⟩
def qci_h0 : List StSh := [⟨.normal, [0, 3, 4], (.cons (.sl true false (.int .u8)) (.cons (.int .u32) (.cons (.int .i64) .nil))), .nil⟩]
def qci_o0 : List StSh := [⟨.exit 0, [3], (.cons (.int .u32) .nil), .nil⟩]
def qci_L0 (n : Nat) : LEntry := ⟨qci_h0, qci_o0, qci_W0 n⟩
def qci_res : List StSh := [⟨.ret, [0], (.cons (.int .u32) .nil), .nil⟩]
def qci_tbl (n : Nat) : FuncId → List Entry := fun f => []
def qci_loops (n : Nat) : Nat → Option LEntry := fun f => bif Nat.beq f 2 then some (qci_L2 n) else bif Nat.beq f 0 then some (qci_L0 n) else none
theorem qci_r2 (n : Nat) (b_0 : DC) (n_3 : Int) (i_4 : Int) (k_5 : Int) : roundK (real _) tab (qci_tbl n) (qci_loops n) qci_an [] qci_l2 2 [0, 3, 4, 5] qci_h2 qci_o2 (b_0, (n_3, (i_4, k_5))) some = qci_B2 n b_0 n_3 i_4 k_5 := by kernel_rfl
theorem qci_f2 (n : Nat) : LoopFact tab (qci_tbl n) (qci_loops n) qci_an [] n 2 qci_l2 (qci_L2 n) := ⟨[0, 3, 4, 5], (fun s => qci_B2 n s.1 s.2.1 s.2.2.1 s.2.2.2), by kernel_rfl, by kernel_rfl, fun s => rfl, fun s => qci_r2 n s.1 s.2.1 s.2.2.1 s.2.2.2⟩
theorem qci_r0 (n : Nat) (b_0 : DC) (n_3 : Int) (i_4 : Int) : roundK (real _) tab (qci_tbl n) (qci_loops n) qci_an [] qci_l0 0 [0, 3, 4] qci_h0 qci_o0 (b_0, (n_3, i_4)) some = qci_B0 n b_0 n_3 i_4 := by kernel_rfl
theorem qci_f0 (n : Nat) : LoopFact tab (qci_tbl n) (qci_loops n) qci_an [] n 0 qci_l0 (qci_L0 n) := ⟨[0, 3, 4], (fun s => qci_B0 n s.1 s.2.1 s.2.2), by kernel_rfl, by kernel_rfl, fun s => rfl, fun s => qci_r0 n s.1 s.2.1 s.2.2⟩
theorem qci_run (n : Nat) (b_0 : DC) : funDS (real _) tab (qci_tbl n) (qci_loops n) qci_an Try.f26 0 qci_a qci_res b_0 some = qci n b_0 := by kernel_rfl
def qci_E (n : Nat) : Entry := ⟨qci_a, qci_res, fun d => qci n d⟩
theorem qci_ok (n : Nat) : EOK Try.prog 26 (qci_E n) :=
 EOK.ofS zc zb ze (tbl := qci_tbl n) (loops := qci_loops n) (an := qci_an) (old := []) (n := n) (c := qci_c) (fn := Try.f26) TblOK.nil (by kernel_rfl) (by kernel_rfl) (by kernel_rfl) (by kernel_rfl) (fun d => by kernel_rfl) (LT.cons (by kernel_rfl) (qci_f2 n) (LT.cons (by kernel_rfl) (qci_f0 n) LT.nil)) (fun a => qci_run n a)
def law06ModuleBack_res : List StSh := [⟨.ret, [0], (.cons .bool .nil), .nil⟩]
def law06ModuleBack_tbl (n : Nat) : FuncId → List Entry := fun f => bif Nat.beq f 14 then [qby_E n] else bif Nat.beq f 19 then [qbd_E n] else bif Nat.beq f 20 then [qbe_E n] else bif Nat.beq f 21 then [qbp_E n] else bif Nat.beq f 22 then [qbh_E n] else bif Nat.beq f 23 then [qbf_E n] else bif Nat.beq f 24 then [qcf_E n] else bif Nat.beq f 25 then [qt_E n] else bif Nat.beq f 26 then [qci_E n] else []
def law06ModuleBack_loops (n : Nat) : Nat → Option LEntry := fun f => none
theorem zdO (n : Nat) (t0 : DH) (t0_1 : DI) (t0_2 : DJ) (t0_3 : DC) (t0_4 : DD) : funDS (real _) tab (law06ModuleBack_tbl n) (law06ModuleBack_loops n) law06ModuleBack_an Try.f7 0 law06ModuleBack_a law06ModuleBack_res (t0, (t0_1, (t0_2, (t0_3, t0_4)))) some = law06ModuleBack n t0 t0_1 t0_2 t0_3 t0_4 := by kernel_rfl
def law06ModuleBack_E (n : Nat) : Entry := ⟨law06ModuleBack_a, law06ModuleBack_res, fun d => law06ModuleBack n d.1 d.2.1 d.2.2.1 d.2.2.2.1 d.2.2.2.2⟩
theorem zes (n : Nat) : EOK Try.prog 7 (law06ModuleBack_E n) :=
 EOK.ofS zc zb ze (tbl := law06ModuleBack_tbl n) (loops := law06ModuleBack_loops n) (an := law06ModuleBack_an) (old := []) (n := n) (c := law06ModuleBack_c) (fn := Try.f7) (TblOK.cons (AllE.cons (qby_ok n) AllE.nil) (TblOK.cons (AllE.cons (qbd_ok n) AllE.nil) (TblOK.cons (AllE.cons (qbe_ok n) AllE.nil) (TblOK.cons (AllE.cons (qbp_ok n) AllE.nil) (TblOK.cons (AllE.cons (qbh_ok n) AllE.nil) (TblOK.cons (AllE.cons (qbf_ok n) AllE.nil) (TblOK.cons (AllE.cons (qcf_ok n) AllE.nil) (TblOK.cons (AllE.cons (qt_ok n) AllE.nil) (TblOK.cons (AllE.cons (qci_ok n) AllE.nil) TblOK.nil))))))))) (by kernel_rfl) (by kernel_rfl) (by kernel_rfl) (by kernel_rfl) (fun d => by kernel_rfl) LT.nil (fun a => zdO n a.1 a.2.1 a.2.2.1 a.2.2.2.1 a.2.2.2.2)
end
end Sx
