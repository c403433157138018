import Derived.Test.YtmfemlkbeehioaaProg
import Derived.Test.YtmfemlkbeehioaaLib32
import Derived.Test.YtmfemlkbeehioaaModRFixB
import Derived.KernelRfl
open Go Go.Ab Go.Proofs
set_option linter.unusedVariables false
set_option maxRecDepth 20000
namespace Sx
noncomputable section
def qcp_h0 : List StSh := [⟨.normal, [0, 2, 4, 6, 20, 21], (.cons (.ptr 0 0 0 0) (.cons (.ptr 1 0 0 0) (.cons (.int .i64) (.cons (.ptr 2 0 0 0) (.cons (.int .i64) (.cons (.int .i64) .nil)))))), (.cons (.bcells 0 false 1 (.cons (.sl false false (.int .u8)) (.cons .bool .nil))) (.cons (.bcells 0 false 1 (.cons (.int .i64) (.cons (.int .i64) (.cons (.int .i64) .nil)))) (.cons (.bcells 0 false 1 (.cons (.int .u64) (.cons (.int .u64) .nil))) .nil)))⟩]
def qcp_o0 : List StSh := [⟨.ret, [2, 3], (.cons (.ptr 1 0 0 0) (.cons .bool .nil)), (.cons (.bcells 0 false 1 (.cons (.sl false false (.int .u8)) (.cons .bool .nil))) (.cons (.bcells 0 false 1 (.cons (.int .i64) (.cons (.int .i64) (.cons (.int .i64) .nil)))) (.cons (.bcells 0 false 1 (.cons (.int .u64) (.cons (.int .u64) .nil))) .nil)))⟩, ⟨.exit 0, [2, 4, 6], (.cons (.ptr 1 0 0 0) (.cons (.int .i64) (.cons (.ptr 2 0 0 0) .nil))), (.cons (.bcells 0 false 1 (.cons (.sl false false (.int .u8)) (.cons .bool .nil))) (.cons (.bcells 0 false 1 (.cons (.int .i64) (.cons (.int .i64) (.cons (.int .i64) .nil)))) (.cons (.bcells 0 false 1 (.cons (.int .u64) (.cons (.int .u64) .nil))) .nil)))⟩]
def qcp_L0 (n : Nat) : LEntry := ⟨qcp_h0, qcp_o0, qcp_W0 n⟩
def qcp_res : List StSh := [⟨.ret, [0], (.cons (.tup (.cons (.agg (.cons (.int .i64) (.cons (.int .i64) (.cons (.int .i64) .nil)))) (.cons .bool .nil))) .nil), (.cons (.bcells 0 false 1 (.cons (.sl false false (.int .u8)) (.cons .bool .nil))) .nil)⟩]
def qcp_tbl (n : Nat) : FuncId → List Entry := fun f => bif Nat.beq f 67 then [qai_E n] else bif Nat.beq f 116 then [qci_E n] else bif Nat.beq f 104 then [qbf_E n] else bif Nat.beq f 56 then [qbb_E n] else []
def qcp_loops (n : Nat) : Nat → Option LEntry := fun f => bif Nat.beq f 0 then some (qcp_L0 n) else none
theorem qcp_r0 (n : Nat) (op_4 : Int) (t20 : Int) (t21 : Int) (m0 : DC) (m0_1 : Bool) (m1 : Int) (m1_1 : Int) (m1_2 : Int) (m2 : Int) (m2_1 : Int) : roundK (real _) tab (qcp_tbl n) (qcp_loops n) qcp_an [some true] qcp_l0 0 [0, 2, 4, 6, 20, 21] qcp_h0 qcp_o0 ((op_4, (t20, t21)), ((m0, m0_1), ((m1, (m1_1, m1_2)), (m2, m2_1)))) some = qcp_B0 n op_4 t20 t21 m0 m0_1 m1 m1_1 m1_2 m2 m2_1 := by kernel_rfl
theorem qcp_f0 (n : Nat) : LoopFact tab (qcp_tbl n) (qcp_loops n) qcp_an [some true] n 0 qcp_l0 (qcp_L0 n) := ⟨[0, 2, 4, 6, 20, 21], (fun s => qcp_B0 n s.1.1 s.1.2.1 s.1.2.2 s.2.1.1 s.2.1.2 s.2.2.1.1 s.2.2.1.2.1 s.2.2.1.2.2 s.2.2.2.1 s.2.2.2.2), by kernel_rfl, by kernel_rfl, fun s => rfl, fun s => qcp_r0 n s.1.1 s.1.2.1 s.1.2.2 s.2.1.1 s.2.1.2 s.2.2.1.1 s.2.2.1.2.1 s.2.2.1.2.2 s.2.2.2.1 s.2.2.2.2⟩
theorem qcp_run (n : Nat) (m0 : DC) (m0_1 : Bool) : funDS (real _) tab (qcp_tbl n) (qcp_loops n) qcp_an Try.f118 1 qcp_a qcp_res (m0, m0_1) some = qcp n m0 m0_1 := by kernel_rfl
def qcp_E (n : Nat) : Entry := ⟨qcp_a, qcp_res, fun d => qcp n d.1 d.2⟩
theorem qcp_ok (n : Nat) : EOK Try.prog 118 (qcp_E n) :=
 EOK.ofS zb zc ze (tbl := qcp_tbl n) (loops := qcp_loops n) (an := qcp_an) (old := [some true]) (n := n) (c := qcp_c) (fn := Try.f118) (TblOK.cons (AllE.cons (qai_ok n) AllE.nil) (TblOK.cons (AllE.cons (qci_ok n) AllE.nil) (TblOK.cons (AllE.cons (qbf_ok n) AllE.nil) (TblOK.cons (AllE.cons (qbb_ok n) AllE.nil) TblOK.nil)))) (by kernel_rfl) (by kernel_rfl) (by kernel_rfl) (by kernel_rfl) (fun d => by kernel_rfl) (LT.cons (by kernel_rfl) (qcp_f0 n) LT.nil) (fun a => qcp_run n a.1 a.2)
def qn_res : List StSh := [⟨.ret, [0], (.cons (.agg (.cons (.int .i64) (.cons (.int .i64) (.cons (.int .i64) .nil)))) .nil), (.cons (.bcells 0 false 1 (.cons (.ptr 1 0 0 0) (.cons (.int .i64) (.cons .bool .nil)))) (.cons (.bcells 0 false 1 (.cons (.sl false false (.int .u8)) (.cons .bool .nil))) .nil))⟩]
def qn_tbl (n : Nat) : FuncId → List Entry := fun f => bif Nat.beq f 118 then [qcp_E n] else []
def qn_loops (n : Nat) : Nat → Option LEntry := fun f => none
theorem qn_run (n : Nat) (m0 : Int) (m0_1 : Bool) (m1 : DC) (m1_1 : Bool) : funDS (real _) tab (qn_tbl n) (qn_loops n) qn_an Try.f108 2 qn_a qn_res ((m0, m0_1), (m1, m1_1)) some = qn n m0 m0_1 m1 m1_1 := by kernel_rfl
def qn_E (n : Nat) : Entry := ⟨qn_a, qn_res, fun d => qn n d.1.1 d.1.2 d.2.1 d.2.2⟩
theorem qn_ok (n : Nat) : EOK Try.prog 108 (qn_E n) :=
 EOK.ofS zb zc ze (tbl := qn_tbl n) (loops := qn_loops n) (an := qn_an) (old := [some true, some true]) (n := n) (c := qn_c) (fn := Try.f108) (TblOK.cons (AllE.cons (qcp_ok n) AllE.nil) TblOK.nil) (by kernel_rfl) (by kernel_rfl) (by kernel_rfl) (by kernel_rfl) (fun d => by kernel_rfl) LT.nil (fun a => qn_run n a.1.1 a.1.2 a.2.1 a.2.2)
def qh_h0 : List StSh := [⟨.normal, [0, 2, 7, 10, 11], (.cons (.ptr 0 0 0 0) (.cons (.fn 108 (.cons (.ptr 0 0 0 0) .nil) .nil) (.cons (.msw 2 0) (.cons (.int .i64) (.cons (.int .i64) .nil))))), (.cons (.bcells 0 false 1 (.cons (.ptr 1 0 0 0) (.cons (.int .i64) (.cons .bool .nil)))) (.cons (.bcells 0 false 1 (.cons (.sl false false (.int .u8)) (.cons .bool .nil))) (.cons (.bts 0 false false true yE) .nil)))⟩]
def qh_o0 : List StSh := [⟨.exit 0, [7], (.cons (.msw 2 0) .nil), (.cons (.bcells 0 false 1 (.cons (.ptr 1 0 0 0) (.cons (.int .i64) (.cons .bool .nil)))) (.cons (.bcells 0 false 1 (.cons (.sl false false (.int .u8)) (.cons .bool .nil))) (.cons (.bts 0 false false true yE) .nil)))⟩]
def qh_L0 (n : Nat) : LEntry := ⟨qh_h0, qh_o0, qh_W0 n⟩
def qh_res : List StSh := [⟨.ret, [0], (.cons (.sl false true yE) .nil), (.cons (.bcells 0 false 1 (.cons (.ptr 1 0 0 0) (.cons (.int .i64) (.cons .bool .nil)))) (.cons (.bcells 0 false 1 (.cons (.sl false false (.int .u8)) (.cons .bool .nil))) .nil))⟩]
def qh_tbl (n : Nat) : FuncId → List Entry := fun f => bif Nat.beq f 71 then [qk_E n] else bif Nat.beq f 108 then [qn_E n] else []
def qh_loops (n : Nat) : Nat → Option LEntry := fun f => bif Nat.beq f 0 then some (qh_L0 n) else none
theorem qh_r0 (n : Nat) (t10 : Int) (t11 : Int) (m0 : Int) (m0_1 : Bool) (m1 : DC) (m1_1 : Bool) (m2 : DB) : roundK (real _) tab (qh_tbl n) (qh_loops n) qh_an [some true, some true] qh_l0 0 [0, 2, 7, 10, 11] qh_h0 qh_o0 ((t10, t11), ((m0, m0_1), ((m1, m1_1), m2))) some = qh_B0 n t10 t11 m0 m0_1 m1 m1_1 m2 := by kernel_rfl
theorem qh_f0 (n : Nat) : LoopFact tab (qh_tbl n) (qh_loops n) qh_an [some true, some true] n 0 qh_l0 (qh_L0 n) := ⟨[0, 2, 7, 10, 11], (fun s => qh_B0 n s.1.1 s.1.2 s.2.1.1 s.2.1.2 s.2.2.1.1 s.2.2.1.2 s.2.2.2), by kernel_rfl, by kernel_rfl, fun s => rfl, fun s => qh_r0 n s.1.1 s.1.2 s.2.1.1 s.2.1.2 s.2.2.1.1 s.2.2.1.2 s.2.2.2⟩
theorem qh_run (n : Nat) (most_1 : Int) (m0 : Int) (m0_1 : Bool) (m1 : DC) (m1_1 : Bool) : funDS (real _) tab (qh_tbl n) (qh_loops n) qh_an Try.f107 2 qh_a qh_res (most_1, ((m0, m0_1), (m1, m1_1))) some = qh n most_1 m0 m0_1 m1 m1_1 := by kernel_rfl
def qh_E (n : Nat) : Entry := ⟨qh_a, qh_res, fun d => qh n d.1 d.2.1.1 d.2.1.2 d.2.2.1 d.2.2.2⟩
theorem qh_ok (n : Nat) : EOK Try.prog 107 (qh_E n) :=
 EOK.ofS zb zc ze (tbl := qh_tbl n) (loops := qh_loops n) (an := qh_an) (old := [some true, some true]) (n := n) (c := qh_c) (fn := Try.f107) (TblOK.cons (AllE.cons (qk_ok n) AllE.nil) (TblOK.cons (AllE.cons (qn_ok n) AllE.nil) TblOK.nil)) (by kernel_rfl) (by kernel_rfl) (by kernel_rfl) (by kernel_rfl) (fun d => by kernel_rfl) (LT.cons (by kernel_rfl) (qh_f0 n) LT.nil) (fun a => qh_run n a.1 a.2.1.1 a.2.1.2 a.2.2.1 a.2.2.2)
def qa_res : List StSh := [⟨.ret, [0], (.cons (.agg (.cons (.sl false true yD) (.cons (.int .i64) (.cons (.int .i64) (.cons (.sl false true yD) (.cons (.sl false true yE) .nil)))))) .nil), (.cons (.bcells 0 false 1 (.cons (.ptr 1 0 0 0) (.cons (.int .i64) (.cons .bool .nil)))) (.cons (.bcells 0 false 1 (.cons (.sl false false (.int .u8)) (.cons .bool .nil))) .nil))⟩]
def qa_tbl (n : Nat) : FuncId → List Entry := fun f => bif Nat.beq f 59 then [qb_E n] else bif Nat.beq f 60 then [qx_E n] else bif Nat.beq f 107 then [qh_E n] else []
def qa_loops (n : Nat) : Nat → Option LEntry := fun f => none
theorem qa_run (n : Nat) (m0 : Int) (m0_1 : Bool) (m1 : DC) (m1_1 : Bool) : funDS (real _) tab (qa_tbl n) (qa_loops n) qa_an Try.f62 2 qa_a qa_res ((m0, m0_1), (m1, m1_1)) some = qa n m0 m0_1 m1 m1_1 := by kernel_rfl
def qa_E (n : Nat) : Entry := ⟨qa_a, qa_res, fun d => qa n d.1.1 d.1.2 d.2.1 d.2.2⟩
theorem qa_ok (n : Nat) : EOK Try.prog 62 (qa_E n) :=
 EOK.ofS zb zc ze (tbl := qa_tbl n) (loops := qa_loops n) (an := qa_an) (old := [some true, some true]) (n := n) (c := qa_c) (fn := Try.f62) (TblOK.cons (AllE.cons (qb_ok n) AllE.nil) (TblOK.cons (AllE.cons (qx_ok n) AllE.nil) (TblOK.cons (AllE.cons (qh_ok n) AllE.nil) TblOK.nil))) (by kernel_rfl) (by kernel_rfl) (by kernel_rfl) (by kernel_rfl) (fun d => by kernel_rfl) LT.nil (fun a => qa_run n a.1.1 a.1.2 a.2.1 a.2.2)
def qp_h0 : List StSh := [⟨.normal, [0, 2, 7, 10, 11], (.cons (.ptr 0 0 0 0) (.cons (.fn 62 (.cons (.ptr 0 0 0 0) .nil) .nil) (.cons (.msw 2 0) (.cons (.int .i64) (.cons (.int .i64) .nil))))), (.cons (.bcells 0 false 1 (.cons (.ptr 1 0 0 0) (.cons (.int .i64) (.cons .bool .nil)))) (.cons (.bcells 0 false 1 (.cons (.sl false false (.int .u8)) (.cons .bool .nil))) (.cons (.bts 0 false false true yB) .nil)))⟩]
def qp_o0 : List StSh := [⟨.exit 0, [7], (.cons (.msw 2 0) .nil), (.cons (.bcells 0 false 1 (.cons (.ptr 1 0 0 0) (.cons (.int .i64) (.cons .bool .nil)))) (.cons (.bcells 0 false 1 (.cons (.sl false false (.int .u8)) (.cons .bool .nil))) (.cons (.bts 0 false false true yB) .nil)))⟩]
def qp_L0 (n : Nat) : LEntry := ⟨qp_h0, qp_o0, qp_W0 n⟩
def qp_res : List StSh := [⟨.ret, [0], (.cons (.sl false true yB) .nil), (.cons (.bcells 0 false 1 (.cons (.ptr 1 0 0 0) (.cons (.int .i64) (.cons .bool .nil)))) (.cons (.bcells 0 false 1 (.cons (.sl false false (.int .u8)) (.cons .bool .nil))) .nil))⟩]
def qp_tbl (n : Nat) : FuncId → List Entry := fun f => bif Nat.beq f 71 then [qk_E n] else bif Nat.beq f 62 then [qa_E n] else []
def qp_loops (n : Nat) : Nat → Option LEntry := fun f => bif Nat.beq f 0 then some (qp_L0 n) else none
theorem qp_r0 (n : Nat) (t10 : Int) (t11 : Int) (m0 : Int) (m0_1 : Bool) (m1 : DC) (m1_1 : Bool) (m2 : DI) : roundK (real _) tab (qp_tbl n) (qp_loops n) qp_an [some true, some true] qp_l0 0 [0, 2, 7, 10, 11] qp_h0 qp_o0 ((t10, t11), ((m0, m0_1), ((m1, m1_1), m2))) some = qp_B0 n t10 t11 m0 m0_1 m1 m1_1 m2 := by kernel_rfl
theorem qp_f0 (n : Nat) : LoopFact tab (qp_tbl n) (qp_loops n) qp_an [some true, some true] n 0 qp_l0 (qp_L0 n) := ⟨[0, 2, 7, 10, 11], (fun s => qp_B0 n s.1.1 s.1.2 s.2.1.1 s.2.1.2 s.2.2.1.1 s.2.2.1.2 s.2.2.2), by kernel_rfl, by kernel_rfl, fun s => rfl, fun s => qp_r0 n s.1.1 s.1.2 s.2.1.1 s.2.1.2 s.2.2.1.1 s.2.2.1.2 s.2.2.2⟩
theorem qp_run (n : Nat) (most_1 : Int) (m0 : Int) (m0_1 : Bool) (m1 : DC) (m1_1 : Bool) : funDS (real _) tab (qp_tbl n) (qp_loops n) qp_an Try.f61 2 qp_a qp_res (most_1, ((m0, m0_1), (m1, m1_1))) some = qp n most_1 m0 m0_1 m1 m1_1 := by kernel_rfl
def qp_E (n : Nat) : Entry := ⟨qp_a, qp_res, fun d => qp n d.1 d.2.1.1 d.2.1.2 d.2.2.1 d.2.2.2⟩
theorem qp_ok (n : Nat) : EOK Try.prog 61 (qp_E n) :=
 EOK.ofS zb zc ze (tbl := qp_tbl n) (loops := qp_loops n) (an := qp_an) (old := [some true, some true]) (n := n) (c := qp_c) (fn := Try.f61) (TblOK.cons (AllE.cons (qk_ok n) AllE.nil) (TblOK.cons (AllE.cons (qa_ok n) AllE.nil) TblOK.nil)) (by kernel_rfl) (by kernel_rfl) (by kernel_rfl) (by kernel_rfl) (fun d => by kernel_rfl) (LT.cons (by kernel_rfl) (qp_f0 n) LT.nil) (fun a => qp_run n a.1 a.2.1.1 a.2.1.2 a.2.2.1 a.2.2.2)
def qag_an : Ann := {}
def qag_c : Code := (match Try.f54.body with | some c => c | none => .skip)
def qag_a : StSh := ⟨.normal, [0, 1, 2], (.cons (.int .i64) (.cons (.ptr 0 0 0 0) (.cons (.ptr 1 0 0 0) .nil))), (.cons (.bcells 0 false 1 (.cons (.sl false false yF) .nil)) (.cons (.bcells 0 false 1 (.cons (.sl false false yA) (.cons (.sl false true yB) (.cons .nilS (.cons .nilS (.cons .nilS .nil)))))) .nil))⟩
def qag_res : List StSh := [⟨.ret, [0], (.cons (.ptr 2 0 0 0) .nil), (.cons (.bcells 0 false 1 (.cons (.sl false false yF) .nil)) (.cons (.bcells 0 false 1 (.cons (.sl false false yA) (.cons (.sl false true yB) (.cons .nilS (.cons .nilS (.cons .nilS .nil)))))) (.cons (.bcells 0 false 1 (.cons (.ptr 3 0 0 0) (.cons (.int .i64) (.cons .bool .nil)))) (.cons (.bcells 0 false 1 (.cons (.sl false false (.int .u8)) (.cons .bool .nil))) .nil))))⟩]
def qag_tbl (n : Nat) : FuncId → List Entry := fun f => bif Nat.beq f 55 then [qbg_E n] else []
def qag_loops (n : Nat) : Nat → Option LEntry := fun f => none
theorem qag_run (n : Nat) (k_0 : Int) (m0 : DK) (m1 : DH) (m1_1 : DI) : funDS (real _) tab (qag_tbl n) (qag_loops n) qag_an Try.f54 2 qag_a qag_res (k_0, (m0, (m1, m1_1))) some = qag n k_0 m0 m1 m1_1 := by kernel_rfl
def qag_E (n : Nat) : Entry := ⟨qag_a, qag_res, fun d => qag n d.1 d.2.1 d.2.2.1 d.2.2.2⟩
theorem qag_ok (n : Nat) : EOK Try.prog 54 (qag_E n) :=
 EOK.ofS zb zc ze (tbl := qag_tbl n) (loops := qag_loops n) (an := qag_an) (old := [some true, some true]) (n := n) (c := qag_c) (fn := Try.f54) (TblOK.cons (AllE.cons (qbg_ok n) AllE.nil) TblOK.nil) (by kernel_rfl) (by kernel_rfl) (by kernel_rfl) (by kernel_rfl) (fun d => by kernel_rfl) LT.nil (fun a => qag_run n a.1 a.2.1 a.2.2.1 a.2.2.2)
def qd_an : Ann := { live := [(0, [0, 2, 7, 10, 11])], boxed := [(1, 0), (5, 4)] }
def qd_c : Code := (match Try.f63.body with | some c => c | none => .skip)
def qd_l0 : Code := (match assoc 0 (loopsIn qd_c 0) with | some c => c | none => .skip)
def qd_a : StSh := ⟨.normal, [0, 1, 2], (.cons (.ptr 0 0 0 0) (.cons (.int .i64) (.cons (.fn 64 (.cons (.ptr 0 0 0 0) .nil) .nil) .nil))), (.cons (.bcells 0 false 1 (.cons (.ptr 1 0 0 0) (.cons (.int .i64) (.cons .bool .nil)))) (.cons (.bcells 0 false 1 (.cons (.sl false false (.int .u8)) (.cons .bool .nil))) .nil))⟩
def qs_an : Ann := {}
def qs_c : Code := (match Try.f64.body with | some c => c | none => .skip)
def qs_a : StSh := ⟨.normal, [0], (.cons (.ptr 0 0 0 0) .nil), (.cons (.bcells 0 false 1 (.cons (.ptr 1 0 0 0) (.cons (.int .i64) (.cons .bool .nil)))) (.cons (.bcells 0 false 1 (.cons (.sl false false (.int .u8)) (.cons .bool .nil))) .nil))⟩
def qs_res : List StSh := [⟨.ret, [0], (.cons (.agg (.cons (.sl false true yD) (.cons (.int .i64) (.cons (.int .i64) .nil)))) .nil), (.cons (.bcells 0 false 1 (.cons (.ptr 1 0 0 0) (.cons (.int .i64) (.cons .bool .nil)))) (.cons (.bcells 0 false 1 (.cons (.sl false false (.int .u8)) (.cons .bool .nil))) .nil))⟩]
def qs_tbl (n : Nat) : FuncId → List Entry := fun f => bif Nat.beq f 59 then [qb_E n] else bif Nat.beq f 60 then [qx_E n] else []
def qs_loops (n : Nat) : Nat → Option LEntry := fun f => none
theorem qs_run (n : Nat) (m0 : Int) (m0_1 : Bool) (m1 : DC) (m1_1 : Bool) : funDS (real _) tab (qs_tbl n) (qs_loops n) qs_an Try.f64 2 qs_a qs_res ((m0, m0_1), (m1, m1_1)) some = qs n m0 m0_1 m1 m1_1 := by kernel_rfl
def qs_E (n : Nat) : Entry := ⟨qs_a, qs_res, fun d => qs n d.1.1 d.1.2 d.2.1 d.2.2⟩
theorem qs_ok (n : Nat) : EOK Try.prog 64 (qs_E n) :=
 EOK.ofS zb zc ze (tbl := qs_tbl n) (loops := qs_loops n) (an := qs_an) (old := [some true, some true]) (n := n) (c := qs_c) (fn := Try.f64) (TblOK.cons (AllE.cons (qb_ok n) AllE.nil) (TblOK.cons (AllE.cons (qx_ok n) AllE.nil) TblOK.nil)) (by kernel_rfl) (by kernel_rfl) (by kernel_rfl) (by kernel_rfl) (fun d => by kernel_rfl) LT.nil (fun a => qs_run n a.1.1 a.1.2 a.2.1 a.2.2)
def qd_h0 : List StSh := [⟨.normal, [0, 2, 7, 10, 11], (.cons (.ptr 0 0 0 0) (.cons (.fn 64 (.cons (.ptr 0 0 0 0) .nil) .nil) (.cons (.msw 2 0) (.cons (.int .i64) (.cons (.int .i64) .nil))))), (.cons (.bcells 0 false 1 (.cons (.ptr 1 0 0 0) (.cons (.int .i64) (.cons .bool .nil)))) (.cons (.bcells 0 false 1 (.cons (.sl false false (.int .u8)) (.cons .bool .nil))) (.cons (.bts 0 false false true yC) .nil)))⟩]
def qd_o0 : List StSh := [⟨.exit 0, [7], (.cons (.msw 2 0) .nil), (.cons (.bcells 0 false 1 (.cons (.ptr 1 0 0 0) (.cons (.int .i64) (.cons .bool .nil)))) (.cons (.bcells 0 false 1 (.cons (.sl false false (.int .u8)) (.cons .bool .nil))) (.cons (.bts 0 false false true yC) .nil)))⟩]
def qd_L0 (n : Nat) : LEntry := ⟨qd_h0, qd_o0, qd_W0 n⟩
def qd_res : List StSh := [⟨.ret, [0], (.cons (.sl false true yC) .nil), (.cons (.bcells 0 false 1 (.cons (.ptr 1 0 0 0) (.cons (.int .i64) (.cons .bool .nil)))) (.cons (.bcells 0 false 1 (.cons (.sl false false (.int .u8)) (.cons .bool .nil))) .nil))⟩]
def qd_tbl (n : Nat) : FuncId → List Entry := fun f => bif Nat.beq f 71 then [qk_E n] else bif Nat.beq f 64 then [qs_E n] else []
def qd_loops (n : Nat) : Nat → Option LEntry := fun f => bif Nat.beq f 0 then some (qd_L0 n) else none
theorem qd_r0 (n : Nat) (t10 : Int) (t11 : Int) (m0 : Int) (m0_1 : Bool) (m1 : DC) (m1_1 : Bool) (m2 : DJ) : roundK (real _) tab (qd_tbl n) (qd_loops n) qd_an [some true, some true] qd_l0 0 [0, 2, 7, 10, 11] qd_h0 qd_o0 ((t10, t11), ((m0, m0_1), ((m1, m1_1), m2))) some = qd_B0 n t10 t11 m0 m0_1 m1 m1_1 m2 := by kernel_rfl
theorem qd_f0 (n : Nat) : LoopFact tab (qd_tbl n) (qd_loops n) qd_an [some true, some true] n 0 qd_l0 (qd_L0 n) := ⟨[0, 2, 7, 10, 11], (fun s => qd_B0 n s.1.1 s.1.2 s.2.1.1 s.2.1.2 s.2.2.1.1 s.2.2.1.2 s.2.2.2), by kernel_rfl, by kernel_rfl, fun s => rfl, fun s => qd_r0 n s.1.1 s.1.2 s.2.1.1 s.2.1.2 s.2.2.1.1 s.2.2.1.2 s.2.2.2⟩
theorem qd_run (n : Nat) (most_1 : Int) (m0 : Int) (m0_1 : Bool) (m1 : DC) (m1_1 : Bool) : funDS (real _) tab (qd_tbl n) (qd_loops n) qd_an Try.f63 2 qd_a qd_res (most_1, ((m0, m0_1), (m1, m1_1))) some = qd n most_1 m0 m0_1 m1 m1_1 := by kernel_rfl
def qd_E (n : Nat) : Entry := ⟨qd_a, qd_res, fun d => qd n d.1 d.2.1.1 d.2.1.2 d.2.2.1 d.2.2.2⟩
theorem qd_ok (n : Nat) : EOK Try.prog 63 (qd_E n) :=
 EOK.ofS zb zc ze (tbl := qd_tbl n) (loops := qd_loops n) (an := qd_an) (old := [some true, some true]) (n := n) (c := qd_c) (fn := Try.f63) (TblOK.cons (AllE.cons (qk_ok n) AllE.nil) (TblOK.cons (AllE.cons (qs_ok n) AllE.nil) TblOK.nil)) (by kernel_rfl) (by kernel_rfl) (by kernel_rfl) (by kernel_rfl) (fun d => by kernel_rfl) (LT.cons (by kernel_rfl) (qd_f0 n) LT.nil) (fun a => qd_run n a.1 a.2.1.1 a.2.1.2 a.2.2.1 a.2.2.2)
def qy_an : Ann := {}
def qy_c : Code := (match Try.f54.body with | some c => c | none => .skip)
def qy_a : StSh := ⟨.normal, [0, 1, 2], (.cons (.int .i64) (.cons (.ptr 0 0 0 0) (.cons (.ptr 1 0 0 0) .nil))), (.cons (.bcells 0 false 1 (.cons (.sl false false yF) .nil)) (.cons (.bcells 0 false 1 (.cons (.sl false false yA) (.cons (.sl false true yB) (.cons (.sl false true yC) (.cons .nilS (.cons .nilS .nil)))))) .nil))⟩
def qy_res : List StSh := [⟨.ret, [0], (.cons (.ptr 2 0 0 0) .nil), (.cons (.bcells 0 false 1 (.cons (.sl false false yF) .nil)) (.cons (.bcells 0 false 1 (.cons (.sl false false yA) (.cons (.sl false true yB) (.cons (.sl false true yC) (.cons .nilS (.cons .nilS .nil)))))) (.cons (.bcells 0 false 1 (.cons (.ptr 3 0 0 0) (.cons (.int .i64) (.cons .bool .nil)))) (.cons (.bcells 0 false 1 (.cons (.sl false false (.int .u8)) (.cons .bool .nil))) .nil))))⟩]
def qy_tbl (n : Nat) : FuncId → List Entry := fun f => bif Nat.beq f 55 then [qbg_E n] else []
def qy_loops (n : Nat) : Nat → Option LEntry := fun f => none
theorem qy_run (n : Nat) (k_0 : Int) (m0 : DK) (m1 : DH) (m1_1 : DI) (m1_2 : DJ) : funDS (real _) tab (qy_tbl n) (qy_loops n) qy_an Try.f54 2 qy_a qy_res (k_0, (m0, (m1, (m1_1, m1_2)))) some = qy n k_0 m0 m1 m1_1 m1_2 := by kernel_rfl
def qy_E (n : Nat) : Entry := ⟨qy_a, qy_res, fun d => qy n d.1 d.2.1 d.2.2.1 d.2.2.2.1 d.2.2.2.2⟩
theorem qy_ok (n : Nat) : EOK Try.prog 54 (qy_E n) :=
 EOK.ofS zb zc ze (tbl := qy_tbl n) (loops := qy_loops n) (an := qy_an) (old := [some true, some true]) (n := n) (c := qy_c) (fn := Try.f54) (TblOK.cons (AllE.cons (qbg_ok n) AllE.nil) TblOK.nil) (by kernel_rfl) (by kernel_rfl) (by kernel_rfl) (by kernel_rfl) (fun d => by kernel_rfl) LT.nil (fun a => qy_run n a.1 a.2.1 a.2.2.1 a.2.2.2.1 a.2.2.2.2)
def qr_an : Ann := { live := [(0, [0, 2, 7, 10, 11])], boxed := [(1, 0), (5, 4)] }
def qr_c : Code := (match Try.f65.body with | some c => c | none => .skip)
def qr_l0 : Code := (match assoc 0 (loopsIn qr_c 0) with | some c => c | none => .skip)
def qr_a : StSh := ⟨.normal, [0, 1, 2], (.cons (.ptr 0 0 0 0) (.cons (.int .i64) (.cons (.fn 66 .nil (.cons (.ptr 1 0 0 0) .nil)) .nil))), (.cons (.bcells 0 false 1 (.cons (.ptr 2 0 0 0) (.cons (.int .i64) (.cons .bool .nil)))) (.cons (.bcells 0 false 1 (.cons (.ptr 0 0 0 0) .nil)) (.cons (.bcells 0 false 1 (.cons (.sl false false (.int .u8)) (.cons .bool .nil))) .nil)))⟩
def qal_an : Ann := {}
def qal_c : Code := (match Try.f66.body with | some c => c | none => .skip)
def qal_a : StSh := ⟨.normal, [0], (.cons (.ptr 0 0 0 0) .nil), (.cons (.bcells 0 false 1 (.cons (.ptr 1 0 0 0) .nil)) (.cons (.bcells 0 false 1 (.cons (.ptr 2 0 0 0) (.cons (.int .i64) (.cons .bool .nil)))) (.cons (.bcells 0 false 1 (.cons (.sl false false (.int .u8)) (.cons .bool .nil))) .nil)))⟩
def qal_res : List StSh := [⟨.ret, [0], (.cons (.int .u64) .nil), (.cons (.bcells 0 false 1 (.cons (.ptr 1 0 0 0) .nil)) (.cons (.bcells 0 false 1 (.cons (.ptr 2 0 0 0) (.cons (.int .i64) (.cons .bool .nil)))) (.cons (.bcells 0 false 1 (.cons (.sl false false (.int .u8)) (.cons .bool .nil))) .nil)))⟩]
def qal_tbl (n : Nat) : FuncId → List Entry := fun f => bif Nat.beq f 67 then [qai_E n] else []
def qal_loops (n : Nat) : Nat → Option LEntry := fun f => none
theorem qal_run (n : Nat) (m1 : Int) (m1_1 : Bool) (m2 : DC) (m2_1 : Bool) : funDS (real _) tab (qal_tbl n) (qal_loops n) qal_an Try.f66 3 qal_a qal_res ((m1, m1_1), (m2, m2_1)) some = qal n m1 m1_1 m2 m2_1 := by kernel_rfl
def qal_E (n : Nat) : Entry := ⟨qal_a, qal_res, fun d => qal n d.1.1 d.1.2 d.2.1 d.2.2⟩
theorem qal_ok (n : Nat) : EOK Try.prog 66 (qal_E n) :=
 EOK.ofS zb zc ze (tbl := qal_tbl n) (loops := qal_loops n) (an := qal_an) (old := [some true, some true, some true]) (n := n) (c := qal_c) (fn := Try.f66) (TblOK.cons (AllE.cons (qai_ok n) AllE.nil) TblOK.nil) (by kernel_rfl) (by kernel_rfl) (by kernel_rfl) (by kernel_rfl) (fun d => by kernel_rfl) LT.nil (fun a => qal_run n a.1.1 a.1.2 a.2.1 a.2.2)
def qr_h0 : List StSh := [⟨.normal, [0, 2, 7, 10, 11], (.cons (.ptr 0 0 0 0) (.cons (.fn 66 .nil (.cons (.ptr 1 0 0 0) .nil)) (.cons (.msw 3 0) (.cons (.int .i64) (.cons (.int .i64) .nil))))), (.cons (.bcells 0 false 1 (.cons (.ptr 2 0 0 0) (.cons (.int .i64) (.cons .bool .nil)))) (.cons (.bcells 0 false 1 (.cons (.ptr 0 0 0 0) .nil)) (.cons (.bcells 0 false 1 (.cons (.sl false false (.int .u8)) (.cons .bool .nil))) (.cons (.bts 0 false false false (.int .u64)) .nil))))⟩]
def qr_o0 : List StSh := [⟨.exit 0, [7], (.cons (.msw 3 0) .nil), (.cons (.bcells 0 false 1 (.cons (.ptr 2 0 0 0) (.cons (.int .i64) (.cons .bool .nil)))) (.cons (.bcells 0 false 1 (.cons (.ptr 0 0 0 0) .nil)) (.cons (.bcells 0 false 1 (.cons (.sl false false (.int .u8)) (.cons .bool .nil))) (.cons (.bts 0 false false false (.int .u64)) .nil))))⟩]
def qr_L0 (n : Nat) : LEntry := ⟨qr_h0, qr_o0, qr_W0 n⟩
def qr_res : List StSh := [⟨.ret, [0], (.cons (.sl false false (.int .u64)) .nil), (.cons (.bcells 0 false 1 (.cons (.ptr 2 0 0 0) (.cons (.int .i64) (.cons .bool .nil)))) (.cons (.bcells 0 false 1 (.cons (.ptr 0 0 0 0) .nil)) (.cons (.bcells 0 false 1 (.cons (.sl false false (.int .u8)) (.cons .bool .nil))) .nil)))⟩]
def qr_tbl (n : Nat) : FuncId → List Entry := fun f => bif Nat.beq f 71 then [qk_E n] else bif Nat.beq f 66 then [qal_E n] else []
def qr_loops (n : Nat) : Nat → Option LEntry := fun f => bif Nat.beq f 0 then some (qr_L0 n) else none
theorem qr_r0 (n : Nat) (t10 : Int) (t11 : Int) (m0 : Int) (m0_1 : Bool) (m2 : DC) (m2_1 : Bool) (m3 : DC) : roundK (real _) tab (qr_tbl n) (qr_loops n) qr_an [some true, some true, some true] qr_l0 0 [0, 2, 7, 10, 11] qr_h0 qr_o0 ((t10, t11), ((m0, m0_1), ((m2, m2_1), m3))) some = qr_B0 n t10 t11 m0 m0_1 m2 m2_1 m3 := by kernel_rfl
theorem qr_f0 (n : Nat) : LoopFact tab (qr_tbl n) (qr_loops n) qr_an [some true, some true, some true] n 0 qr_l0 (qr_L0 n) := ⟨[0, 2, 7, 10, 11], (fun s => qr_B0 n s.1.1 s.1.2 s.2.1.1 s.2.1.2 s.2.2.1.1 s.2.2.1.2 s.2.2.2), by kernel_rfl, by kernel_rfl, fun s => rfl, fun s => qr_r0 n s.1.1 s.1.2 s.2.1.1 s.2.1.2 s.2.2.1.1 s.2.2.1.2 s.2.2.2⟩
theorem qr_run (n : Nat) (most_1 : Int) (m0 : Int) (m0_1 : Bool) (m2 : DC) (m2_1 : Bool) : funDS (real _) tab (qr_tbl n) (qr_loops n) qr_an Try.f65 3 qr_a qr_res (most_1, ((m0, m0_1), (m2, m2_1))) some = qr n most_1 m0 m0_1 m2 m2_1 := by kernel_rfl
def qr_E (n : Nat) : Entry := ⟨qr_a, qr_res, fun d => qr n d.1 d.2.1.1 d.2.1.2 d.2.2.1 d.2.2.2⟩
theorem qr_ok (n : Nat) : EOK Try.prog 65 (qr_E n) :=
 EOK.ofS zb zc ze (tbl := qr_tbl n) (loops := qr_loops n) (an := qr_an) (old := [some true, some true, some true]) (n := n) (c := qr_c) (fn := Try.f65) (TblOK.cons (AllE.cons (qk_ok n) AllE.nil) (TblOK.cons (AllE.cons (qal_ok n) AllE.nil) TblOK.nil)) (by kernel_rfl) (by kernel_rfl) (by kernel_rfl) (by kernel_rfl) (fun d => by kernel_rfl) (LT.cons (by kernel_rfl) (qr_f0 n) LT.nil) (fun a => qr_run n a.1 a.2.1.1 a.2.1.2 a.2.2.1 a.2.2.2)
def qaf_an : Ann := {}
def qaf_c : Code := (match Try.f54.body with | some c => c | none => .skip)
def qaf_a : StSh := ⟨.normal, [0, 1, 2], (.cons (.int .i64) (.cons (.ptr 0 0 0 0) (.cons (.ptr 1 0 0 0) .nil))), (.cons (.bcells 0 false 1 (.cons (.sl false false yF) .nil)) (.cons (.bcells 0 false 1 (.cons (.sl false false yA) (.cons (.sl false true yB) (.cons (.sl false true yC) (.cons (.sl false false (.int .u64)) (.cons .nilS .nil)))))) .nil))⟩
def qaf_res : List StSh := [⟨.ret, [0], (.cons (.ptr 2 0 0 0) .nil), (.cons (.bcells 0 false 1 (.cons (.sl false false yF) .nil)) (.cons (.bcells 0 false 1 (.cons (.sl false false yA) (.cons (.sl false true yB) (.cons (.sl false true yC) (.cons (.sl false false (.int .u64)) (.cons .nilS .nil)))))) (.cons (.bcells 0 false 1 (.cons (.ptr 3 0 0 0) (.cons (.int .i64) (.cons .bool .nil)))) (.cons (.bcells 0 false 1 (.cons (.sl false false (.int .u8)) (.cons .bool .nil))) .nil))))⟩]
def qaf_tbl (n : Nat) : FuncId → List Entry := fun f => bif Nat.beq f 55 then [qbg_E n] else []
def qaf_loops (n : Nat) : Nat → Option LEntry := fun f => none
theorem qaf_run (n : Nat) (k_0 : Int) (m0 : DK) (m1 : DH) (m1_1 : DI) (m1_2 : DJ) (m1_3 : DC) : funDS (real _) tab (qaf_tbl n) (qaf_loops n) qaf_an Try.f54 2 qaf_a qaf_res (k_0, (m0, (m1, (m1_1, (m1_2, m1_3))))) some = qaf n k_0 m0 m1 m1_1 m1_2 m1_3 := by kernel_rfl
def qaf_E (n : Nat) : Entry := ⟨qaf_a, qaf_res, fun d => qaf n d.1 d.2.1 d.2.2.1 d.2.2.2.1 d.2.2.2.2.1 d.2.2.2.2.2⟩
theorem qaf_ok (n : Nat) : EOK Try.prog 54 (qaf_E n) :=
 EOK.ofS zb zc ze (tbl := qaf_tbl n) (loops := qaf_loops n) (an := qaf_an) (old := [some true, some true]) (n := n) (c := qaf_c) (fn := Try.f54) (TblOK.cons (AllE.cons (qbg_ok n) AllE.nil) TblOK.nil) (by kernel_rfl) (by kernel_rfl) (by kernel_rfl) (by kernel_rfl) (fun d => by kernel_rfl) LT.nil (fun a => qaf_run n a.1 a.2.1 a.2.2.1 a.2.2.2.1 a.2.2.2.2.1 a.2.2.2.2.2)
def qt_an : Ann := { live := [(0, [0, 2, 7, 10, 11])], boxed := [(1, 0), (5, 4)] }
def qt_c : Code := (match Try.f68.body with | some c => c | none => .skip)
def qt_l0 : Code := (match assoc 0 (loopsIn qt_c 0) with | some c => c | none => .skip)
def qt_a : StSh := ⟨.normal, [0, 1, 2], (.cons (.ptr 0 0 0 0) (.cons (.int .i64) (.cons (.fn 69 .nil (.cons (.ptr 1 0 0 0) .nil)) .nil))), (.cons (.bcells 0 false 1 (.cons (.ptr 2 0 0 0) (.cons (.int .i64) (.cons .bool .nil)))) (.cons (.bcells 0 false 1 (.cons (.ptr 0 0 0 0) .nil)) (.cons (.bcells 0 false 1 (.cons (.sl false false (.int .u8)) (.cons .bool .nil))) .nil)))⟩
def qar_an : Ann := {}
def qar_c : Code := (match Try.f69.body with | some c => c | none => .skip)
def qar_a : StSh := ⟨.normal, [0], (.cons (.ptr 0 0 0 0) .nil), (.cons (.bcells 0 false 1 (.cons (.ptr 1 0 0 0) .nil)) (.cons (.bcells 0 false 1 (.cons (.ptr 2 0 0 0) (.cons (.int .i64) (.cons .bool .nil)))) (.cons (.bcells 0 false 1 (.cons (.sl false false (.int .u8)) (.cons .bool .nil))) .nil)))⟩
def qar_res : List StSh := [⟨.ret, [0], (.cons .str .nil), (.cons (.bcells 0 false 1 (.cons (.ptr 1 0 0 0) .nil)) (.cons (.bcells 0 false 1 (.cons (.ptr 2 0 0 0) (.cons (.int .i64) (.cons .bool .nil)))) (.cons (.bcells 0 false 1 (.cons (.sl false false (.int .u8)) (.cons .bool .nil))) .nil)))⟩]
def qar_tbl (n : Nat) : FuncId → List Entry := fun f => bif Nat.beq f 71 then [qk_E n] else bif Nat.beq f 70 then [qaw_E n] else []
def qar_loops (n : Nat) : Nat → Option LEntry := fun f => none
theorem qar_run (n : Nat) (m1 : Int) (m1_1 : Bool) (m2 : DC) (m2_1 : Bool) : funDS (real _) tab (qar_tbl n) (qar_loops n) qar_an Try.f69 3 qar_a qar_res ((m1, m1_1), (m2, m2_1)) some = qar n m1 m1_1 m2 m2_1 := by kernel_rfl
def qar_E (n : Nat) : Entry := ⟨qar_a, qar_res, fun d => qar n d.1.1 d.1.2 d.2.1 d.2.2⟩
theorem qar_ok (n : Nat) : EOK Try.prog 69 (qar_E n) :=
 EOK.ofS zb zc ze (tbl := qar_tbl n) (loops := qar_loops n) (an := qar_an) (old := [some true, some true, some true]) (n := n) (c := qar_c) (fn := Try.f69) (TblOK.cons (AllE.cons (qk_ok n) AllE.nil) (TblOK.cons (AllE.cons (qaw_ok n) AllE.nil) TblOK.nil)) (by kernel_rfl) (by kernel_rfl) (by kernel_rfl) (by kernel_rfl) (fun d => by kernel_rfl) LT.nil (fun a => qar_run n a.1.1 a.1.2 a.2.1 a.2.2)
def qt_h0 : List StSh := [⟨.normal, [0, 2, 7, 10, 11], (.cons (.ptr 0 0 0 0) (.cons (.fn 69 .nil (.cons (.ptr 1 0 0 0) .nil)) (.cons (.msw 3 0) (.cons (.int .i64) (.cons (.int .i64) .nil))))), (.cons (.bcells 0 false 1 (.cons (.ptr 2 0 0 0) (.cons (.int .i64) (.cons .bool .nil)))) (.cons (.bcells 0 false 1 (.cons (.ptr 0 0 0 0) .nil)) (.cons (.bcells 0 false 1 (.cons (.sl false false (.int .u8)) (.cons .bool .nil))) (.cons (.bts 0 false false false .str) .nil))))⟩]
def qt_o0 : List StSh := [⟨.exit 0, [7], (.cons (.msw 3 0) .nil), (.cons (.bcells 0 false 1 (.cons (.ptr 2 0 0 0) (.cons (.int .i64) (.cons .bool .nil)))) (.cons (.bcells 0 false 1 (.cons (.ptr 0 0 0 0) .nil)) (.cons (.bcells 0 false 1 (.cons (.sl false false (.int .u8)) (.cons .bool .nil))) (.cons (.bts 0 false false false .str) .nil))))⟩]
def qt_L0 (n : Nat) : LEntry := ⟨qt_h0, qt_o0, qt_W0 n⟩
def qt_res : List StSh := [⟨.ret, [0], (.cons (.sl false false .str) .nil), (.cons (.bcells 0 false 1 (.cons (.ptr 2 0 0 0) (.cons (.int .i64) (.cons .bool .nil)))) (.cons (.bcells 0 false 1 (.cons (.ptr 0 0 0 0) .nil)) (.cons (.bcells 0 false 1 (.cons (.sl false false (.int .u8)) (.cons .bool .nil))) .nil)))⟩]
def qt_tbl (n : Nat) : FuncId → List Entry := fun f => bif Nat.beq f 71 then [qk_E n] else bif Nat.beq f 69 then [qar_E n] else []
def qt_loops (n : Nat) : Nat → Option LEntry := fun f => bif Nat.beq f 0 then some (qt_L0 n) else none
theorem qt_r0 (n : Nat) (t10 : Int) (t11 : Int) (m0 : Int) (m0_1 : Bool) (m2 : DC) (m2_1 : Bool) (m3 : DD) : roundK (real _) tab (qt_tbl n) (qt_loops n) qt_an [some true, some true, some true] qt_l0 0 [0, 2, 7, 10, 11] qt_h0 qt_o0 ((t10, t11), ((m0, m0_1), ((m2, m2_1), m3))) some = qt_B0 n t10 t11 m0 m0_1 m2 m2_1 m3 := by kernel_rfl
theorem qt_f0 (n : Nat) : LoopFact tab (qt_tbl n) (qt_loops n) qt_an [some true, some true, some true] n 0 qt_l0 (qt_L0 n) := ⟨[0, 2, 7, 10, 11], (fun s => qt_B0 n s.1.1 s.1.2 s.2.1.1 s.2.1.2 s.2.2.1.1 s.2.2.1.2 s.2.2.2), by kernel_rfl, by kernel_rfl, fun s => rfl, fun s => qt_r0 n s.1.1 s.1.2 s.2.1.1 s.2.1.2 s.2.2.1.1 s.2.2.1.2 s.2.2.2⟩
theorem qt_run (n : Nat) (most_1 : Int) (m0 : Int) (m0_1 : Bool) (m2 : DC) (m2_1 : Bool) : funDS (real _) tab (qt_tbl n) (qt_loops n) qt_an Try.f68 3 qt_a qt_res (most_1, ((m0, m0_1), (m2, m2_1))) some = qt n most_1 m0 m0_1 m2 m2_1 := by kernel_rfl
def qt_E (n : Nat) : Entry := ⟨qt_a, qt_res, fun d => qt n d.1 d.2.1.1 d.2.1.2 d.2.2.1 d.2.2.2⟩
theorem qt_ok (n : Nat) : EOK Try.prog 68 (qt_E n) :=
 EOK.ofS zb zc ze (tbl := qt_tbl n) (loops := qt_loops n) (an := qt_an) (old := [some true, some true, some true]) (n := n) (c := qt_c) (fn := Try.f68) (TblOK.cons (AllE.cons (qk_ok n) AllE.nil) (TblOK.cons (AllE.cons (qar_ok n) AllE.nil) TblOK.nil)) (by kernel_rfl) (by kernel_rfl) (by kernel_rfl) (by kernel_rfl) (fun d => by kernel_rfl) (LT.cons (by kernel_rfl) (qt_f0 n) LT.nil) (fun a => qt_run n a.1 a.2.1.1 a.2.1.2 a.2.2.1 a.2.2.2)
def qba_res : List StSh := [⟨.ret, [0], (.cons (.tup (.cons (.agg (.cons (.sl false false yA) (.cons (.sl false true yB) (.cons (.sl false true yC) (.cons (.sl false false (.int .u64)) (.cons (.sl false false .str) .nil)))))) (.cons (.int .i64) .nil))) .nil), .nil⟩]
def qba_tbl (n : Nat) : FuncId → List Entry := fun f => bif Nat.beq f 53 then [qcf_E n] else bif Nat.beq f 54 then [qan_E n, qac_E n, qag_E n, qy_E n, qaf_E n] else bif Nat.beq f 55 then [qbg_E n] else bif Nat.beq f 56 then [qbb_E n] else bif Nat.beq f 57 then [qj_E n] else bif Nat.beq f 61 then [qp_E n] else bif Nat.beq f 63 then [qd_E n] else bif Nat.beq f 65 then [qr_E n] else bif Nat.beq f 68 then [qt_E n] else bif Nat.beq f 20 then [qbe_E n] else []
def qba_loops (n : Nat) : Nat → Option LEntry := fun f => none
theorem qba_run (n : Nat) (t0 : DC) : funDS (real _) tab (qba_tbl n) (qba_loops n) qba_an Try.f23 0 qba_a qba_res t0 some = qba n t0 := by kernel_rfl
def qba_E (n : Nat) : Entry := ⟨qba_a, qba_res, fun d => qba n d⟩
theorem qba_ok (n : Nat) : EOK Try.prog 23 (qba_E n) :=
 EOK.ofS zb zc ze (tbl := qba_tbl n) (loops := qba_loops n) (an := qba_an) (old := []) (n := n) (c := qba_c) (fn := Try.f23) (TblOK.cons (AllE.cons (qcf_ok n) AllE.nil) (TblOK.cons (AllE.cons (qan_ok n) (AllE.cons (qac_ok n) (AllE.cons (qag_ok n) (AllE.cons (qy_ok n) (AllE.cons (qaf_ok n) AllE.nil))))) (TblOK.cons (AllE.cons (qbg_ok n) AllE.nil) (TblOK.cons (AllE.cons (qbb_ok n) AllE.nil) (TblOK.cons (AllE.cons (qj_ok n) AllE.nil) (TblOK.cons (AllE.cons (qp_ok n) AllE.nil) (TblOK.cons (AllE.cons (qd_ok n) AllE.nil) (TblOK.cons (AllE.cons (qr_ok n) AllE.nil) (TblOK.cons (AllE.cons (qt_ok n) AllE.nil) (TblOK.cons (AllE.cons (qbe_ok n) AllE.nil) TblOK.nil)))))))))) (by kernel_rfl) (by kernel_rfl) (by kernel_rfl) (by kernel_rfl) (fun d => by kernel_rfl) LT.nil (fun a => qba_run n a)
def qbx_an : Ann := {}
def qbx_c : Code := (match Try.f27.body with | some c => c | none => .skip)
def qbx_a : StSh := ⟨.normal, [0, 1], (.cons (.agg (.cons (.sl true false yA) (.cons (.sl true true yB) (.cons (.sl true true yC) (.cons (.sl true false (.int .u64)) (.cons (.sl true false .str) .nil)))))) (.cons (.agg (.cons (.sl true false yA) (.cons (.sl true true yB) (.cons (.sl true true yC) (.cons (.sl true false (.int .u64)) (.cons (.sl true false .str) .nil)))))) .nil)), .nil⟩
def qay_an : Ann := { live := [(0, [1, 2, 15, 16, 17])] }
def qay_c : Code := (match Try.f73.body with | some c => c | none => .skip)
def qay_l0 : Code := (match assoc 0 (loopsIn qay_c 0) with | some c => c | none => .skip)
def qay_a : StSh := ⟨.normal, [0, 1, 2], (.cons (.sl true false yA) (.cons (.sl true false yA) (.cons (.fn 74 .nil .nil) .nil))), .nil⟩
def qca_an : Ann := { live := [(0, [0, 1, 12, 13])] }
def qca_c : Code := (match Try.f74.body with | some c => c | none => .skip)
def qca_l0 : Code := (match assoc 0 (loopsIn qca_c 0) with | some c => c | none => .skip)
def qca_a : StSh := ⟨.normal, [0, 1], (.cons (.sl true true yD) (.cons (.sl true true yD) .nil)), .nil⟩
def qca_h0 : List StSh := [⟨.normal, [0, 1, 12, 13], (.cons (.sl true true yD) (.cons (.sl true true yD) (.cons (.int .i64) (.cons (.int .i64) .nil)))), .nil⟩]
def qca_o0 : List StSh := [⟨.ret, [4], (.cons .bool .nil), .nil⟩, ⟨.exit 0, [], .nil, .nil⟩]
def qca_L0 (n : Nat) : LEntry := ⟨qca_h0, qca_o0, qca_W0 n⟩
def qca_res : List StSh := [⟨.ret, [0], (.cons .bool .nil), .nil⟩]
def qca_tbl (n : Nat) : FuncId → List Entry := fun f => []
def qca_loops (n : Nat) : Nat → Option LEntry := fun f => bif Nat.beq f 0 then some (qca_L0 n) else none
theorem qca_r0 (n : Nat) (s1_0 : DA) (s2_1 : DA) (t12 : Int) (t13 : Int) : roundK (real _) tab (qca_tbl n) (qca_loops n) qca_an [] qca_l0 0 [0, 1, 12, 13] qca_h0 qca_o0 (s1_0, (s2_1, (t12, t13))) some = qca_B0 n s1_0 s2_1 t12 t13 := by kernel_rfl
theorem qca_f0 (n : Nat) : LoopFact tab (qca_tbl n) (qca_loops n) qca_an [] n 0 qca_l0 (qca_L0 n) := ⟨[0, 1, 12, 13], (fun s => qca_B0 n s.1 s.2.1 s.2.2.1 s.2.2.2), by kernel_rfl, by kernel_rfl, fun s => rfl, fun s => qca_r0 n s.1 s.2.1 s.2.2.1 s.2.2.2⟩
theorem qca_run (n : Nat) (s1_0 : DA) (s2_1 : DA) : funDS (real _) tab (qca_tbl n) (qca_loops n) qca_an Try.f74 0 qca_a qca_res (s1_0, s2_1) some = qca n s1_0 s2_1 := by kernel_rfl
def qca_E (n : Nat) : Entry := ⟨qca_a, qca_res, fun d => qca n d.1 d.2⟩
theorem qca_ok (n : Nat) : EOK Try.prog 74 (qca_E n) :=
 EOK.ofS zb zc ze (tbl := qca_tbl n) (loops := qca_loops n) (an := qca_an) (old := []) (n := n) (c := qca_c) (fn := Try.f74) TblOK.nil (by kernel_rfl) (by kernel_rfl) (by kernel_rfl) (by kernel_rfl) (fun d => by kernel_rfl) (LT.cons (by kernel_rfl) (qca_f0 n) LT.nil) (fun a => qca_run n a.1 a.2)
def qay_h0 : List StSh := [⟨.normal, [1, 2, 15, 16, 17], (.cons (.sl true false yA) (.cons (.fn 74 .nil .nil) (.cons (.sl true false yA) (.cons (.int .i64) (.cons (.int .i64) .nil))))), .nil⟩]
def qay_o0 : List StSh := [⟨.ret, [6], (.cons .bool .nil), .nil⟩, ⟨.exit 0, [], .nil, .nil⟩]
def qay_L0 (n : Nat) : LEntry := ⟨qay_h0, qay_o0, qay_W0 n⟩
def qay_res : List StSh := [⟨.ret, [0], (.cons .bool .nil), .nil⟩]
def qay_tbl (n : Nat) : FuncId → List Entry := fun f => bif Nat.beq f 74 then [qca_E n] else []
def qay_loops (n : Nat) : Nat → Option LEntry := fun f => bif Nat.beq f 0 then some (qay_L0 n) else none
theorem qay_r0 (n : Nat) (s2_1 : DH) (t15 : DH) (t16 : Int) (t17 : Int) : roundK (real _) tab (qay_tbl n) (qay_loops n) qay_an [] qay_l0 0 [1, 2, 15, 16, 17] qay_h0 qay_o0 (s2_1, (t15, (t16, t17))) some = qay_B0 n s2_1 t15 t16 t17 := by kernel_rfl
theorem qay_f0 (n : Nat) : LoopFact tab (qay_tbl n) (qay_loops n) qay_an [] n 0 qay_l0 (qay_L0 n) := ⟨[1, 2, 15, 16, 17], (fun s => qay_B0 n s.1 s.2.1 s.2.2.1 s.2.2.2), by kernel_rfl, by kernel_rfl, fun s => rfl, fun s => qay_r0 n s.1 s.2.1 s.2.2.1 s.2.2.2⟩
theorem qay_run (n : Nat) (s1_0 : DH) (s2_1 : DH) : funDS (real _) tab (qay_tbl n) (qay_loops n) qay_an Try.f73 0 qay_a qay_res (s1_0, s2_1) some = qay n s1_0 s2_1 := by kernel_rfl
def qay_E (n : Nat) : Entry := ⟨qay_a, qay_res, fun d => qay n d.1 d.2⟩
theorem qay_ok (n : Nat) : EOK Try.prog 73 (qay_E n) :=
 EOK.ofS zb zc ze (tbl := qay_tbl n) (loops := qay_loops n) (an := qay_an) (old := []) (n := n) (c := qay_c) (fn := Try.f73) (TblOK.cons (AllE.cons (qca_ok n) AllE.nil) TblOK.nil) (by kernel_rfl) (by kernel_rfl) (by kernel_rfl) (by kernel_rfl) (fun d => by kernel_rfl) (LT.cons (by kernel_rfl) (qay_f0 n) LT.nil) (fun a => qay_run n a.1 a.2)
def qam_an : Ann := { live := [(0, [1, 2, 15, 16, 17])] }
def qam_c : Code := (match Try.f75.body with | some c => c | none => .skip)
def qam_l0 : Code := (match assoc 0 (loopsIn qam_c 0) with | some c => c | none => .skip)
def qam_a : StSh := ⟨.normal, [0, 1, 2], (.cons (.sl true true yB) (.cons (.sl true true yB) (.cons (.fn 76 .nil .nil) .nil))), .nil⟩
def qw_an : Ann := {}
def qw_c : Code := (match Try.f76.body with | some c => c | none => .skip)
def qw_a : StSh := ⟨.normal, [0, 1], (.cons (.agg (.cons (.sl true true yD) (.cons (.int .i64) (.cons (.int .i64) (.cons (.sl true true yD) (.cons (.sl true true yE) .nil)))))) (.cons (.agg (.cons (.sl true true yD) (.cons (.int .i64) (.cons (.int .i64) (.cons (.sl true true yD) (.cons (.sl true true yE) .nil)))))) .nil)), .nil⟩
def qbw_an : Ann := { live := [(0, [0, 1, 12, 13])] }
def qbw_c : Code := (match Try.f110.body with | some c => c | none => .skip)
def qbw_l0 : Code := (match assoc 0 (loopsIn qbw_c 0) with | some c => c | none => .skip)
def qbw_a : StSh := ⟨.normal, [0, 1], (.cons (.sl true true yE) (.cons (.sl true true yE) .nil)), .nil⟩
def qbw_h0 : List StSh := [⟨.normal, [0, 1, 12, 13], (.cons (.sl true true yE) (.cons (.sl true true yE) (.cons (.int .i64) (.cons (.int .i64) .nil)))), .nil⟩]
def qbw_o0 : List StSh := [⟨.ret, [4], (.cons .bool .nil), .nil⟩, ⟨.exit 0, [], .nil, .nil⟩]
def qbw_L0 (n : Nat) : LEntry := ⟨qbw_h0, qbw_o0, qbw_W0 n⟩
def qbw_res : List StSh := [⟨.ret, [0], (.cons .bool .nil), .nil⟩]
def qbw_tbl (n : Nat) : FuncId → List Entry := fun f => []
def qbw_loops (n : Nat) : Nat → Option LEntry := fun f => bif Nat.beq f 0 then some (qbw_L0 n) else none
theorem qbw_r0 (n : Nat) (s1_0 : DB) (s2_1 : DB) (t12 : Int) (t13 : Int) : roundK (real _) tab (qbw_tbl n) (qbw_loops n) qbw_an [] qbw_l0 0 [0, 1, 12, 13] qbw_h0 qbw_o0 (s1_0, (s2_1, (t12, t13))) some = qbw_B0 n s1_0 s2_1 t12 t13 := by kernel_rfl
theorem qbw_f0 (n : Nat) : LoopFact tab (qbw_tbl n) (qbw_loops n) qbw_an [] n 0 qbw_l0 (qbw_L0 n) := ⟨[0, 1, 12, 13], (fun s => qbw_B0 n s.1 s.2.1 s.2.2.1 s.2.2.2), by kernel_rfl, by kernel_rfl, fun s => rfl, fun s => qbw_r0 n s.1 s.2.1 s.2.2.1 s.2.2.2⟩
theorem qbw_run (n : Nat) (s1_0 : DB) (s2_1 : DB) : funDS (real _) tab (qbw_tbl n) (qbw_loops n) qbw_an Try.f110 0 qbw_a qbw_res (s1_0, s2_1) some = qbw n s1_0 s2_1 := by kernel_rfl
def qbw_E (n : Nat) : Entry := ⟨qbw_a, qbw_res, fun d => qbw n d.1 d.2⟩
theorem qbw_ok (n : Nat) : EOK Try.prog 110 (qbw_E n) :=
 EOK.ofS zb zc ze (tbl := qbw_tbl n) (loops := qbw_loops n) (an := qbw_an) (old := []) (n := n) (c := qbw_c) (fn := Try.f110) TblOK.nil (by kernel_rfl) (by kernel_rfl) (by kernel_rfl) (by kernel_rfl) (fun d => by kernel_rfl) (LT.cons (by kernel_rfl) (qbw_f0 n) LT.nil) (fun a => qbw_run n a.1 a.2)
def qw_res : List StSh := [⟨.ret, [0], (.cons .bool .nil), .nil⟩]
def qw_tbl (n : Nat) : FuncId → List Entry := fun f => bif Nat.beq f 74 then [qca_E n] else bif Nat.beq f 110 then [qbw_E n] else []
def qw_loops (n : Nat) : Nat → Option LEntry := fun f => none
theorem qw_run (n : Nat) (a_0 : DA) (a_0_1 : Int) (a_0_2 : Int) (a_0_3 : DA) (a_0_4 : DB) (b_1 : DA) (b_1_1 : Int) (b_1_2 : Int) (b_1_3 : DA) (b_1_4 : DB) : funDS (real _) tab (qw_tbl n) (qw_loops n) qw_an Try.f76 0 qw_a qw_res ((a_0, (a_0_1, (a_0_2, (a_0_3, a_0_4)))), (b_1, (b_1_1, (b_1_2, (b_1_3, b_1_4))))) some = qw n a_0 a_0_1 a_0_2 a_0_3 a_0_4 b_1 b_1_1 b_1_2 b_1_3 b_1_4 := by kernel_rfl
def qw_E (n : Nat) : Entry := ⟨qw_a, qw_res, fun d => qw n d.1.1 d.1.2.1 d.1.2.2.1 d.1.2.2.2.1 d.1.2.2.2.2 d.2.1 d.2.2.1 d.2.2.2.1 d.2.2.2.2.1 d.2.2.2.2.2⟩
theorem qw_ok (n : Nat) : EOK Try.prog 76 (qw_E n) :=
 EOK.ofS zb zc ze (tbl := qw_tbl n) (loops := qw_loops n) (an := qw_an) (old := []) (n := n) (c := qw_c) (fn := Try.f76) (TblOK.cons (AllE.cons (qca_ok n) AllE.nil) (TblOK.cons (AllE.cons (qbw_ok n) AllE.nil) TblOK.nil)) (by kernel_rfl) (by kernel_rfl) (by kernel_rfl) (by kernel_rfl) (fun d => by kernel_rfl) LT.nil (fun a => qw_run n a.1.1 a.1.2.1 a.1.2.2.1 a.1.2.2.2.1 a.1.2.2.2.2 a.2.1 a.2.2.1 a.2.2.2.1 a.2.2.2.2.1 a.2.2.2.2.2)
def qam_h0 : List StSh := [⟨.normal, [1, 2, 15, 16, 17], (.cons (.sl true true yB) (.cons (.fn 76 .nil .nil) (.cons (.sl true true yB) (.cons (.int .i64) (.cons (.int .i64) .nil))))), .nil⟩]
def qam_o0 : List StSh := [⟨.ret, [6], (.cons .bool .nil), (.cons (.bcells 0 false 1 (.cons (.sl true true yD) (.cons (.int .i64) (.cons (.int .i64) (.cons (.sl true true yD) (.cons (.sl true true yE) .nil)))))) (.cons (.bcells 0 false 1 (.cons (.sl true true yD) (.cons (.int .i64) (.cons (.int .i64) (.cons (.sl true true yD) (.cons (.sl true true yE) .nil)))))) .nil))⟩, ⟨.exit 0, [], .nil, .nil⟩]
def qam_L0 (n : Nat) : LEntry := ⟨qam_h0, qam_o0, qam_W0 n⟩
def qam_res : List StSh := [⟨.ret, [0], (.cons .bool .nil), .nil⟩]
def qam_tbl (n : Nat) : FuncId → List Entry := fun f => bif Nat.beq f 76 then [qw_E n] else []
def qam_loops (n : Nat) : Nat → Option LEntry := fun f => bif Nat.beq f 0 then some (qam_L0 n) else none
theorem qam_r0 (n : Nat) (s2_1 : DI) (t15 : DI) (t16 : Int) (t17 : Int) : roundK (real _) tab (qam_tbl n) (qam_loops n) qam_an [] qam_l0 0 [1, 2, 15, 16, 17] qam_h0 qam_o0 (s2_1, (t15, (t16, t17))) some = qam_B0 n s2_1 t15 t16 t17 := by kernel_rfl
theorem qam_f0 (n : Nat) : LoopFact tab (qam_tbl n) (qam_loops n) qam_an [] n 0 qam_l0 (qam_L0 n) := ⟨[1, 2, 15, 16, 17], (fun s => qam_B0 n s.1 s.2.1 s.2.2.1 s.2.2.2), by kernel_rfl, by kernel_rfl, fun s => rfl, fun s => qam_r0 n s.1 s.2.1 s.2.2.1 s.2.2.2⟩
theorem qam_run (n : Nat) (s1_0 : DI) (s2_1 : DI) : funDS (real _) tab (qam_tbl n) (qam_loops n) qam_an Try.f75 0 qam_a qam_res (s1_0, s2_1) some = qam n s1_0 s2_1 := by kernel_rfl
def qam_E (n : Nat) : Entry := ⟨qam_a, qam_res, fun d => qam n d.1 d.2⟩
theorem qam_ok (n : Nat) : EOK Try.prog 75 (qam_E n) :=
 EOK.ofS zb zc ze (tbl := qam_tbl n) (loops := qam_loops n) (an := qam_an) (old := []) (n := n) (c := qam_c) (fn := Try.f75) (TblOK.cons (AllE.cons (qw_ok n) AllE.nil) TblOK.nil) (by kernel_rfl) (by kernel_rfl) (by kernel_rfl) (by kernel_rfl) (fun d => by kernel_rfl) (LT.cons (by kernel_rfl) (qam_f0 n) LT.nil) (fun a => qam_run n a.1 a.2)
def qae_an : Ann := { live := [(0, [1, 2, 15, 16, 17])] }
def qae_c : Code := (match Try.f77.body with | some c => c | none => .skip)
def qae_l0 : Code := (match assoc 0 (loopsIn qae_c 0) with | some c => c | none => .skip)
def qae_a : StSh := ⟨.normal, [0, 1, 2], (.cons (.sl true true yC) (.cons (.sl true true yC) (.cons (.fn 78 .nil .nil) .nil))), .nil⟩
def ql_an : Ann := {}
def ql_c : Code := (match Try.f78.body with | some c => c | none => .skip)
def ql_a : StSh := ⟨.normal, [0, 1], (.cons (.agg (.cons (.sl true true yD) (.cons (.int .i64) (.cons (.int .i64) .nil)))) (.cons (.agg (.cons (.sl true true yD) (.cons (.int .i64) (.cons (.int .i64) .nil)))) .nil)), .nil⟩
def ql_res : List StSh := [⟨.ret, [0], (.cons .bool .nil), .nil⟩]
def ql_tbl (n : Nat) : FuncId → List Entry := fun f => bif Nat.beq f 74 then [qca_E n] else []
def ql_loops (n : Nat) : Nat → Option LEntry := fun f => none
theorem ql_run (n : Nat) (a_0 : DA) (a_0_1 : Int) (a_0_2 : Int) (b_1 : DA) (b_1_1 : Int) (b_1_2 : Int) : funDS (real _) tab (ql_tbl n) (ql_loops n) ql_an Try.f78 0 ql_a ql_res ((a_0, (a_0_1, a_0_2)), (b_1, (b_1_1, b_1_2))) some = ql n a_0 a_0_1 a_0_2 b_1 b_1_1 b_1_2 := by kernel_rfl
def ql_E (n : Nat) : Entry := ⟨ql_a, ql_res, fun d => ql n d.1.1 d.1.2.1 d.1.2.2 d.2.1 d.2.2.1 d.2.2.2⟩
theorem ql_ok (n : Nat) : EOK Try.prog 78 (ql_E n) :=
 EOK.ofS zb zc ze (tbl := ql_tbl n) (loops := ql_loops n) (an := ql_an) (old := []) (n := n) (c := ql_c) (fn := Try.f78) (TblOK.cons (AllE.cons (qca_ok n) AllE.nil) TblOK.nil) (by kernel_rfl) (by kernel_rfl) (by kernel_rfl) (by kernel_rfl) (fun d => by kernel_rfl) LT.nil (fun a => ql_run n a.1.1 a.1.2.1 a.1.2.2 a.2.1 a.2.2.1 a.2.2.2)
def qae_h0 : List StSh := [⟨.normal, [1, 2, 15, 16, 17], (.cons (.sl true true yC) (.cons (.fn 78 .nil .nil) (.cons (.sl true true yC) (.cons (.int .i64) (.cons (.int .i64) .nil))))), .nil⟩]
def qae_o0 : List StSh := [⟨.ret, [6], (.cons .bool .nil), (.cons (.bcells 0 false 1 (.cons (.sl true true yD) (.cons (.int .i64) (.cons (.int .i64) .nil)))) (.cons (.bcells 0 false 1 (.cons (.sl true true yD) (.cons (.int .i64) (.cons (.int .i64) .nil)))) .nil))⟩, ⟨.exit 0, [], .nil, .nil⟩]
def qae_L0 (n : Nat) : LEntry := ⟨qae_h0, qae_o0, qae_W0 n⟩
def qae_res : List StSh := [⟨.ret, [0], (.cons .bool .nil), .nil⟩]
def qae_tbl (n : Nat) : FuncId → List Entry := fun f => bif Nat.beq f 78 then [ql_E n] else []
def qae_loops (n : Nat) : Nat → Option LEntry := fun f => bif Nat.beq f 0 then some (qae_L0 n) else none
theorem qae_r0 (n : Nat) (s2_1 : DJ) (t15 : DJ) (t16 : Int) (t17 : Int) : roundK (real _) tab (qae_tbl n) (qae_loops n) qae_an [] qae_l0 0 [1, 2, 15, 16, 17] qae_h0 qae_o0 (s2_1, (t15, (t16, t17))) some = qae_B0 n s2_1 t15 t16 t17 := by kernel_rfl
theorem qae_f0 (n : Nat) : LoopFact tab (qae_tbl n) (qae_loops n) qae_an [] n 0 qae_l0 (qae_L0 n) := ⟨[1, 2, 15, 16, 17], (fun s => qae_B0 n s.1 s.2.1 s.2.2.1 s.2.2.2), by kernel_rfl, by kernel_rfl, fun s => rfl, fun s => qae_r0 n s.1 s.2.1 s.2.2.1 s.2.2.2⟩
theorem qae_run (n : Nat) (s1_0 : DJ) (s2_1 : DJ) : funDS (real _) tab (qae_tbl n) (qae_loops n) qae_an Try.f77 0 qae_a qae_res (s1_0, s2_1) some = qae n s1_0 s2_1 := by kernel_rfl
def qae_E (n : Nat) : Entry := ⟨qae_a, qae_res, fun d => qae n d.1 d.2⟩
theorem qae_ok (n : Nat) : EOK Try.prog 77 (qae_E n) :=
 EOK.ofS zb zc ze (tbl := qae_tbl n) (loops := qae_loops n) (an := qae_an) (old := []) (n := n) (c := qae_c) (fn := Try.f77) (TblOK.cons (AllE.cons (ql_ok n) AllE.nil) TblOK.nil) (by kernel_rfl) (by kernel_rfl) (by kernel_rfl) (by kernel_rfl) (fun d => by kernel_rfl) (LT.cons (by kernel_rfl) (qae_f0 n) LT.nil) (fun a => qae_run n a.1 a.2)
def qbn_an : Ann := { live := [(0, [0, 1, 12, 13])] }
def qbn_c : Code := (match Try.f79.body with | some c => c | none => .skip)
def qbn_l0 : Code := (match assoc 0 (loopsIn qbn_c 0) with | some c => c | none => .skip)
def qbn_a : StSh := ⟨.normal, [0, 1], (.cons (.sl true false (.int .u64)) (.cons (.sl true false (.int .u64)) .nil)), .nil⟩
def qbn_h0 : List StSh := [⟨.normal, [0, 1, 12, 13], (.cons (.sl true false (.int .u64)) (.cons (.sl true false (.int .u64)) (.cons (.int .i64) (.cons (.int .i64) .nil)))), .nil⟩]
def qbn_o0 : List StSh := [⟨.ret, [4], (.cons .bool .nil), .nil⟩, ⟨.exit 0, [], .nil, .nil⟩]
def qbn_L0 (n : Nat) : LEntry := ⟨qbn_h0, qbn_o0, qbn_W0 n⟩
def qbn_res : List StSh := [⟨.ret, [0], (.cons .bool .nil), .nil⟩]
def qbn_tbl (n : Nat) : FuncId → List Entry := fun f => []
def qbn_loops (n : Nat) : Nat → Option LEntry := fun f => bif Nat.beq f 0 then some (qbn_L0 n) else none
theorem qbn_r0 (n : Nat) (s1_0 : DC) (s2_1 : DC) (t12 : Int) (t13 : Int) : roundK (real _) tab (qbn_tbl n) (qbn_loops n) qbn_an [] qbn_l0 0 [0, 1, 12, 13] qbn_h0 qbn_o0 (s1_0, (s2_1, (t12, t13))) some = qbn_B0 n s1_0 s2_1 t12 t13 := by kernel_rfl
theorem qbn_f0 (n : Nat) : LoopFact tab (qbn_tbl n) (qbn_loops n) qbn_an [] n 0 qbn_l0 (qbn_L0 n) := ⟨[0, 1, 12, 13], (fun s => qbn_B0 n s.1 s.2.1 s.2.2.1 s.2.2.2), by kernel_rfl, by kernel_rfl, fun s => rfl, fun s => qbn_r0 n s.1 s.2.1 s.2.2.1 s.2.2.2⟩
theorem qbn_run (n : Nat) (s1_0 : DC) (s2_1 : DC) : funDS (real _) tab (qbn_tbl n) (qbn_loops n) qbn_an Try.f79 0 qbn_a qbn_res (s1_0, s2_1) some = qbn n s1_0 s2_1 := by kernel_rfl
def qbn_E (n : Nat) : Entry := ⟨qbn_a, qbn_res, fun d => qbn n d.1 d.2⟩
theorem qbn_ok (n : Nat) : EOK Try.prog 79 (qbn_E n) :=
 EOK.ofS zb zc ze (tbl := qbn_tbl n) (loops := qbn_loops n) (an := qbn_an) (old := []) (n := n) (c := qbn_c) (fn := Try.f79) TblOK.nil (by kernel_rfl) (by kernel_rfl) (by kernel_rfl) (by kernel_rfl) (fun d => by kernel_rfl) (LT.cons (by kernel_rfl) (qbn_f0 n) LT.nil) (fun a => qbn_run n a.1 a.2)
def qbj_an : Ann := { live := [(0, [0, 1, 12, 13])] }
def qbj_c : Code := (match Try.f80.body with | some c => c | none => .skip)
def qbj_l0 : Code := (match assoc 0 (loopsIn qbj_c 0) with | some c => c | none => .skip)
def qbj_a : StSh := ⟨.normal, [0, 1], (.cons (.sl true false .str) (.cons (.sl true false .str) .nil)), .nil⟩
def qbj_h0 : List StSh := [⟨.normal, [0, 1, 12, 13], (.cons (.sl true false .str) (.cons (.sl true false .str) (.cons (.int .i64) (.cons (.int .i64) .nil)))), .nil⟩]
def qbj_o0 : List StSh := [⟨.ret, [4], (.cons .bool .nil), .nil⟩, ⟨.exit 0, [], .nil, .nil⟩]
def qbj_L0 (n : Nat) : LEntry := ⟨qbj_h0, qbj_o0, qbj_W0 n⟩
def qbj_res : List StSh := [⟨.ret, [0], (.cons .bool .nil), .nil⟩]
def qbj_tbl (n : Nat) : FuncId → List Entry := fun f => []
def qbj_loops (n : Nat) : Nat → Option LEntry := fun f => bif Nat.beq f 0 then some (qbj_L0 n) else none
theorem qbj_r0 (n : Nat) (s1_0 : DD) (s2_1 : DD) (t12 : Int) (t13 : Int) : roundK (real _) tab (qbj_tbl n) (qbj_loops n) qbj_an [] qbj_l0 0 [0, 1, 12, 13] qbj_h0 qbj_o0 (s1_0, (s2_1, (t12, t13))) some = qbj_B0 n s1_0 s2_1 t12 t13 := by kernel_rfl
theorem qbj_f0 (n : Nat) : LoopFact tab (qbj_tbl n) (qbj_loops n) qbj_an [] n 0 qbj_l0 (qbj_L0 n) := ⟨[0, 1, 12, 13], (fun s => qbj_B0 n s.1 s.2.1 s.2.2.1 s.2.2.2), by kernel_rfl, by kernel_rfl, fun s => rfl, fun s => qbj_r0 n s.1 s.2.1 s.2.2.1 s.2.2.2⟩
theorem qbj_run (n : Nat) (s1_0 : DD) (s2_1 : DD) : funDS (real _) tab (qbj_tbl n) (qbj_loops n) qbj_an Try.f80 0 qbj_a qbj_res (s1_0, s2_1) some = qbj n s1_0 s2_1 := by kernel_rfl
def qbj_E (n : Nat) : Entry := ⟨qbj_a, qbj_res, fun d => qbj n d.1 d.2⟩
theorem qbj_ok (n : Nat) : EOK Try.prog 80 (qbj_E n) :=
 EOK.ofS zb zc ze (tbl := qbj_tbl n) (loops := qbj_loops n) (an := qbj_an) (old := []) (n := n) (c := qbj_c) (fn := Try.f80) TblOK.nil (by kernel_rfl) (by kernel_rfl) (by kernel_rfl) (by kernel_rfl) (fun d => by kernel_rfl) (LT.cons (by kernel_rfl) (qbj_f0 n) LT.nil) (fun a => qbj_run n a.1 a.2)
def qbx_res : List StSh := [⟨.ret, [0], (.cons .bool .nil), .nil⟩]
def qbx_tbl (n : Nat) : FuncId → List Entry := fun f => bif Nat.beq f 73 then [qay_E n] else bif Nat.beq f 75 then [qam_E n] else bif Nat.beq f 77 then [qae_E n] else bif Nat.beq f 79 then [qbn_E n] else bif Nat.beq f 80 then [qbj_E n] else []
def qbx_loops (n : Nat) : Nat → Option LEntry := fun f => none
theorem qbx_run (n : Nat) (a_0 : DH) (a_0_1 : DI) (a_0_2 : DJ) (a_0_3 : DC) (a_0_4 : DD) (b_1 : DH) (b_1_1 : DI) (b_1_2 : DJ) (b_1_3 : DC) (b_1_4 : DD) : funDS (real _) tab (qbx_tbl n) (qbx_loops n) qbx_an Try.f27 0 qbx_a qbx_res ((a_0, (a_0_1, (a_0_2, (a_0_3, a_0_4)))), (b_1, (b_1_1, (b_1_2, (b_1_3, b_1_4))))) some = qbx n a_0 a_0_1 a_0_2 a_0_3 a_0_4 b_1 b_1_1 b_1_2 b_1_3 b_1_4 := by kernel_rfl
def qbx_E (n : Nat) : Entry := ⟨qbx_a, qbx_res, fun d => qbx n d.1.1 d.1.2.1 d.1.2.2.1 d.1.2.2.2.1 d.1.2.2.2.2 d.2.1 d.2.2.1 d.2.2.2.1 d.2.2.2.2.1 d.2.2.2.2.2⟩
theorem qbx_ok (n : Nat) : EOK Try.prog 27 (qbx_E n) :=
 EOK.ofS zb zc ze (tbl := qbx_tbl n) (loops := qbx_loops n) (an := qbx_an) (old := []) (n := n) (c := qbx_c) (fn := Try.f27) (TblOK.cons (AllE.cons (qay_ok n) AllE.nil) (TblOK.cons (AllE.cons (qam_ok n) AllE.nil) (TblOK.cons (AllE.cons (qae_ok n) AllE.nil) (TblOK.cons (AllE.cons (qbn_ok n) AllE.nil) (TblOK.cons (AllE.cons (qbj_ok n) AllE.nil) TblOK.nil))))) (by kernel_rfl) (by kernel_rfl) (by kernel_rfl) (by kernel_rfl) (fun d => by kernel_rfl) LT.nil (fun a => qbx_run n a.1.1 a.1.2.1 a.1.2.2.1 a.1.2.2.2.1 a.1.2.2.2.2 a.2.1 a.2.2.1 a.2.2.2.1 a.2.2.2.2.1 a.2.2.2.2.2)
def qbl_an : Ann := {}
def qbl_c : Code := (match Try.f22.body with | some c => c | none => .skip)
def qbl_a : StSh := ⟨.normal, [0], (.cons (.agg (.cons (.sl true false yA) (.cons (.sl true true yB) (.cons (.sl true true yC) (.cons (.sl true false (.int .u64)) (.cons (.sl true false .str) .nil)))))) .nil), .nil⟩
def qcr_an : Ann := { live := [(0, [3, 7, 8, 9]), (2, [3, 7, 8, 9, 17])] }
def qcr_c : Code := (match Try.f52.body with | some c => c | none => .skip)
def qcr_l0 : Code := (match assoc 0 (loopsIn qcr_c 0) with | some c => c | none => .skip)
def qcr_l2 : Code := (match assoc 2 (loopsIn qcr_c 0) with | some c => c | none => .skip)
def qcr_a : StSh := ⟨.normal, [0], (.cons (.sl true false (.int .u8)) .nil), .nil⟩
def qcr_h2 : List StSh := [⟨.normal, [3, 7, 8, 9, 17], (.cons (.int .u32) (.cons (.sl true false (.int .u8)) (.cons (.int .i64) (.cons (.int .i64) (.cons (.int .i64) .nil))))), .nil⟩]
def qcr_o2 : List StSh := [⟨.exit 2, [3, 7, 8, 9], (.cons (.int .u32) (.cons (.sl true false (.int .u8)) (.cons (.int .i64) (.cons (.int .i64) .nil)))), .nil⟩]
def qcr_L2 (n : Nat) : LEntry := ⟨qcr_h2, qcr_o2, qcr_W2 n⟩
def qcr_h0 : List StSh := [⟨.normal, [3, 7, 8, 9], (.cons (.int .u32) (.cons (.sl true false (.int .u8)) (.cons (.int .i64) (.cons (.int .i64) .nil)))), .nil⟩]
def qcr_o0 : List StSh := [⟨.exit 0, [3], (.cons (.int .u32) .nil), .nil⟩]
def qcr_L0 (n : Nat) : LEntry := ⟨qcr_h0, qcr_o0, qcr_W0 n⟩
def qcr_res : List StSh := [⟨.ret, [0], (.cons (.int .u32) .nil), .nil⟩]
def qcr_tbl (n : Nat) : FuncId → List Entry := fun f => []
def qcr_loops (n : Nat) : Nat → Option LEntry := fun f => bif Nat.beq f 2 then some (qcr_L2 n) else bif Nat.beq f 0 then some (qcr_L0 n) else none
theorem qcr_r2 (n : Nat) (n_3 : Int) (t7 : DC) (t8 : Int) (t9 : Int) (t17 : Int) : roundK (real _) tab (qcr_tbl n) (qcr_loops n) qcr_an [] qcr_l2 2 [3, 7, 8, 9, 17] qcr_h2 qcr_o2 (n_3, (t7, (t8, (t9, t17)))) some = qcr_B2 n n_3 t7 t8 t9 t17 := by kernel_rfl
theorem qcr_f2 (n : Nat) : LoopFact tab (qcr_tbl n) (qcr_loops n) qcr_an [] n 2 qcr_l2 (qcr_L2 n) := ⟨[3, 7, 8, 9, 17], (fun s => qcr_B2 n s.1 s.2.1 s.2.2.1 s.2.2.2.1 s.2.2.2.2), by kernel_rfl, by kernel_rfl, fun s => rfl, fun s => qcr_r2 n s.1 s.2.1 s.2.2.1 s.2.2.2.1 s.2.2.2.2⟩
theorem qcr_r0 (n : Nat) (n_3 : Int) (t7 : DC) (t8 : Int) (t9 : Int) : roundK (real _) tab (qcr_tbl n) (qcr_loops n) qcr_an [] qcr_l0 0 [3, 7, 8, 9] qcr_h0 qcr_o0 (n_3, (t7, (t8, t9))) some = qcr_B0 n n_3 t7 t8 t9 := by kernel_rfl
theorem qcr_f0 (n : Nat) : LoopFact tab (qcr_tbl n) (qcr_loops n) qcr_an [] n 0 qcr_l0 (qcr_L0 n) := ⟨[3, 7, 8, 9], (fun s => qcr_B0 n s.1 s.2.1 s.2.2.1 s.2.2.2), by kernel_rfl, by kernel_rfl, fun s => rfl, fun s => qcr_r0 n s.1 s.2.1 s.2.2.1 s.2.2.2⟩
theorem qcr_run (n : Nat) (b_0 : DC) : funDS (real _) tab (qcr_tbl n) (qcr_loops n) qcr_an Try.f52 0 qcr_a qcr_res b_0 some = qcr n b_0 := by kernel_rfl
def qcr_E (n : Nat) : Entry := ⟨qcr_a, qcr_res, fun d => qcr n d⟩
theorem qcr_ok (n : Nat) : EOK Try.prog 52 (qcr_E n) :=
 EOK.ofS zb zc ze (tbl := qcr_tbl n) (loops := qcr_loops n) (an := qcr_an) (old := []) (n := n) (c := qcr_c) (fn := Try.f52) TblOK.nil (by kernel_rfl) (by kernel_rfl) (by kernel_rfl) (by kernel_rfl) (fun d => by kernel_rfl) (LT.cons (by kernel_rfl) (qcr_f2 n) (LT.cons (by kernel_rfl) (qcr_f0 n) LT.nil)) (fun a => qcr_run n a)
def qbl_res : List StSh := [⟨.ret, [0], (.cons (.int .u32) .nil), .nil⟩]
def qbl_tbl (n : Nat) : FuncId → List Entry := fun f => bif Nat.beq f 20 then [qbe_E n] else bif Nat.beq f 52 then [qcr_E n] else []
def qbl_loops (n : Nat) : Nat → Option LEntry := fun f => none
theorem qbl_run (n : Nat) (m_0 : DH) (m_0_1 : DI) (m_0_2 : DJ) (m_0_3 : DC) (m_0_4 : DD) : funDS (real _) tab (qbl_tbl n) (qbl_loops n) qbl_an Try.f22 0 qbl_a qbl_res (m_0, (m_0_1, (m_0_2, (m_0_3, m_0_4)))) some = qbl n m_0 m_0_1 m_0_2 m_0_3 m_0_4 := by kernel_rfl
def qbl_E (n : Nat) : Entry := ⟨qbl_a, qbl_res, fun d => qbl n d.1 d.2.1 d.2.2.1 d.2.2.2.1 d.2.2.2.2⟩
theorem qbl_ok (n : Nat) : EOK Try.prog 22 (qbl_E n) :=
 EOK.ofS zb zc ze (tbl := qbl_tbl n) (loops := qbl_loops n) (an := qbl_an) (old := []) (n := n) (c := qbl_c) (fn := Try.f22) (TblOK.cons (AllE.cons (qbe_ok n) AllE.nil) (TblOK.cons (AllE.cons (qcr_ok n) AllE.nil) TblOK.nil)) (by kernel_rfl) (by kernel_rfl) (by kernel_rfl) (by kernel_rfl) (fun d => by kernel_rfl) LT.nil (fun a => qbl_run n a.1 a.2.1 a.2.2.1 a.2.2.2.1 a.2.2.2.2)
def qbc_res : List StSh := [⟨.ret, [0], (.cons .bool .nil), .nil⟩]
def qbc_tbl (n : Nat) : FuncId → List Entry := fun f => bif Nat.beq f 20 then [qbe_E n] else bif Nat.beq f 23 then [qba_E n] else bif Nat.beq f 27 then [qbx_E n] else bif Nat.beq f 22 then [qbl_E n] else []
def qbc_loops (n : Nat) : Nat → Option LEntry := fun f => none
theorem qbc_run (n : Nat) : funDS (real _) tab (qbc_tbl n) (qbc_loops n) qbc_an Try.f19 0 qbc_a qbc_res () some = qbc n := by kernel_rfl
def qbc_E (n : Nat) : Entry := ⟨qbc_a, qbc_res, fun d => qbc n⟩
theorem qbc_ok (n : Nat) : EOK Try.prog 19 (qbc_E n) :=
 EOK.ofS zb zc ze (tbl := qbc_tbl n) (loops := qbc_loops n) (an := qbc_an) (old := []) (n := n) (c := qbc_c) (fn := Try.f19) (TblOK.cons (AllE.cons (qbe_ok n) AllE.nil) (TblOK.cons (AllE.cons (qba_ok n) AllE.nil) (TblOK.cons (AllE.cons (qbx_ok n) AllE.nil) (TblOK.cons (AllE.cons (qbl_ok n) AllE.nil) TblOK.nil)))) (by kernel_rfl) (by kernel_rfl) (by kernel_rfl) (by kernel_rfl) (fun d => by kernel_rfl) LT.nil (fun a => qbc_run n)
def qbo_an : Ann := { live := [(0, [1, 4, 5, 6, 7]), (2, [1, 4, 5, 6, 10, 11]), (4, [1, 4, 5, 6, 10, 11, 12, 17]), (6, [1, 4, 5, 6, 10, 19, 20]), (8, [1, 5, 6, 10, 19, 23, 24]), (10, [1, 5, 6, 10, 19, 23, 25, 26])], boxed := [(10, 2), (21, 2), (21, 6), (21, 8), (21, 14), (28, 2), (35, 2), (35, 10), (40, 7), (46, 9), (46, 15)], raw := [(5, 2), (11, 4), (29, 4), (36, 4), (41, 4)] }
def qbo_c : Code := (match Try.f21.body with | some c => c | none => .skip)
def qbo_l0 : Code := (match assoc 0 (loopsIn qbo_c 0) with | some c => c | none => .skip)
def qbo_l2 : Code := (match assoc 2 (loopsIn qbo_c 0) with | some c => c | none => .skip)
def qbo_l4 : Code := (match assoc 4 (loopsIn qbo_c 0) with | some c => c | none => .skip)
def qbo_l6 : Code := (match assoc 6 (loopsIn qbo_c 0) with | some c => c | none => .skip)
def qbo_l8 : Code := (match assoc 8 (loopsIn qbo_c 0) with | some c => c | none => .skip)
def qbo_l10 : Code := (match assoc 10 (loopsIn qbo_c 0) with | some c => c | none => .skip)
def qbo_a : StSh := ⟨.normal, [0], (.cons (.agg (.cons (.sl true false yA) (.cons (.sl true true yB) (.cons (.sl true true yC) (.cons (.sl true false (.int .u64)) (.cons (.sl true false .str) .nil)))))) .nil), .nil⟩
def qcg_an : Ann := { boxed := [(0, 0), (2, 2), (3, 4), (3, 8)] }
def qcg_c : Code := (match Try.f46.body with | some c => c | none => .skip)
def qcg_a : StSh := ⟨.normal, [0], (.cons (.int .u64) .nil), .nil⟩
def qcg_res : List StSh := [⟨.ret, [0], (.cons (.msw 0 0) .nil), (.cons (.bts 0 false false false (.int .u8)) .nil)⟩]
def qcg_Ed (n d : Nat) : Entry := ⟨qcg_a, qcg_res, qcg_D n d⟩
def qcg_tbl (n d : Nat) : FuncId → List Entry := fun f => bif Nat.beq f 46 then [qcg_Ed n d] else []
def qcg_loops (n : Nat) : Nat → Option LEntry := fun f => none
theorem qcg_run (n d : Nat) (v_0 : Int) : funD (real _) tab (qcg_tbl n d) (qcg_loops n) qcg_an Try.f46 qcg_a qcg_res v_0 some = qcg_D n (d + 1) v_0 := by kernel_rfl
def qcg_E (n : Nat) : Entry := ⟨qcg_a, qcg_res, fun d => qcg n d⟩
theorem qcg_okd (n : Nat) (d : Nat) : EOK Try.prog 46 (qcg_Ed n d) :=
 Nat.rec (EOK.none (by kernel_rfl) fun _ => rfl) (fun d ih => EOK.of zb zc ze (tbl := qcg_tbl n d) (loops := qcg_loops n) (an := qcg_an) (old := []) (n := n) (c := qcg_c) (fn := Try.f46) (TblOK.cons (AllE.cons ih AllE.nil) TblOK.nil) (by kernel_rfl) (by kernel_rfl) (by kernel_rfl) (by kernel_rfl) (fun d => by kernel_rfl) LT.nil (fun a => qcg_run n d a)) d
theorem qcg_ok (n : Nat) : EOK Try.prog 46 (qcg_E n) := qcg_okd n n
def qbu_an : Ann := { live := [(0, [0, 1, 2, 8, 9])], boxed := [(7, 6)], raw := [(1, 3)] }
def qbu_c : Code := (match Try.f47.body with | some c => c | none => .skip)
def qbu_l0 : Code := (match assoc 0 (loopsIn qbu_c 0) with | some c => c | none => .skip)
def qbu_a : StSh := ⟨.normal, [0, 1, 2], (.cons (.sl true true yD) (.cons (.int .i64) (.cons (.int .i64) .nil))), .nil⟩
def qbz_an : Ann := {}
def qbz_c : Code := (match Try.f18.body with | some c => c | none => .skip)
def qbz_a : StSh := ⟨.normal, [0, 1], (.cons (.agg (.cons (.int .i64) (.cons (.int .i64) .nil))) (.cons (.int .i64) .nil)), .nil⟩
def qbz_res : List StSh := [⟨.ret, [0], (.cons .bool .nil), .nil⟩]
def qbz_tbl (n : Nat) : FuncId → List Entry := fun f => []
def qbz_loops (n : Nat) : Nat → Option LEntry := fun f => none
theorem qbz_run (n : Nat) (t_0 : Int) (t_0_1 : Int) (recs_1 : Int) : funDS (real _) tab (qbz_tbl n) (qbz_loops n) qbz_an Try.f18 0 qbz_a qbz_res ((t_0, t_0_1), recs_1) some = qbz n t_0 t_0_1 recs_1 := by kernel_rfl
def qbz_E (n : Nat) : Entry := ⟨qbz_a, qbz_res, fun d => qbz n d.1.1 d.1.2 d.2⟩
theorem qbz_ok (n : Nat) : EOK Try.prog 18 (qbz_E n) :=
 EOK.ofS zb zc ze (tbl := qbz_tbl n) (loops := qbz_loops n) (an := qbz_an) (old := []) (n := n) (c := qbz_c) (fn := Try.f18) TblOK.nil (by kernel_rfl) (by kernel_rfl) (by kernel_rfl) (by kernel_rfl) (fun d => by kernel_rfl) LT.nil (fun a => qbz_run n a.1.1 a.1.2 a.2)
def qcc_an : Ann := { raw := [(6, 2)] }
def qcc_c : Code := (match Try.f48.body with | some c => c | none => .skip)
def qcc_a : StSh := ⟨.normal, [0], (.cons (.agg (.cons (.int .i64) (.cons (.int .i64) .nil))) .nil), .nil⟩
def qcc_res : List StSh := [⟨.ret, [0], (.cons (.sl false false (.int .u8)) .nil), .nil⟩]
def qcc_tbl (n : Nat) : FuncId → List Entry := fun f => bif Nat.beq f 46 then [qcg_E n] else []
def qcc_loops (n : Nat) : Nat → Option LEntry := fun f => none
theorem qcc_run (n : Nat) (t_0 : Int) (t_0_1 : Int) : funDS (real _) tab (qcc_tbl n) (qcc_loops n) qcc_an Try.f48 0 qcc_a qcc_res (t_0, t_0_1) some = qcc n t_0 t_0_1 := by kernel_rfl
def qcc_E (n : Nat) : Entry := ⟨qcc_a, qcc_res, fun d => qcc n d.1 d.2⟩
theorem qcc_ok (n : Nat) : EOK Try.prog 48 (qcc_E n) :=
 EOK.ofS zb zc ze (tbl := qcc_tbl n) (loops := qcc_loops n) (an := qcc_an) (old := []) (n := n) (c := qcc_c) (fn := Try.f48) (TblOK.cons (AllE.cons (qcg_ok n) AllE.nil) TblOK.nil) (by kernel_rfl) (by kernel_rfl) (by kernel_rfl) (by kernel_rfl) (fun d => by kernel_rfl) LT.nil (fun a => qcc_run n a.1 a.2)
def qbu_h0 : List StSh := [⟨.normal, [0, 1, 2, 8, 9], (.cons (.sl true true yD) (.cons (.int .i64) (.cons (.int .i64) (.cons (.msw 0 0) (.cons (.int .i64) .nil))))), (.cons (.bts 0 false false false (.int .u8)) .nil)⟩]
def qbu_o0 : List StSh := [⟨.ret, [6, 7], (.cons (.sl false false (.int .u8)) (.cons .bool .nil)), (.cons (.bts 0 false false false (.int .u8)) .nil)⟩, ⟨.exit 0, [0, 2, 8], (.cons (.sl true true yD) (.cons (.int .i64) (.cons (.msw 0 0) .nil))), (.cons (.bts 0 false false false (.int .u8)) .nil)⟩]
def qbu_L0 (n : Nat) : LEntry := ⟨qbu_h0, qbu_o0, qbu_W0 n⟩
def qbu_res : List StSh := [⟨.ret, [0], (.cons (.tup (.cons (.sl false false (.int .u8)) (.cons .bool .nil))) .nil), .nil⟩]
def qbu_tbl (n : Nat) : FuncId → List Entry := fun f => bif Nat.beq f 46 then [qcg_E n] else bif Nat.beq f 18 then [qbz_E n] else bif Nat.beq f 48 then [qcc_E n] else []
def qbu_loops (n : Nat) : Nat → Option LEntry := fun f => bif Nat.beq f 0 then some (qbu_L0 n) else none
theorem qbu_r0 (n : Nat) (l_0 : DA) (recs_1 : Int) (most_2 : Int) (i_9 : Int) (m0 : DC) : roundK (real _) tab (qbu_tbl n) (qbu_loops n) qbu_an [] qbu_l0 0 [0, 1, 2, 8, 9] qbu_h0 qbu_o0 ((l_0, (recs_1, (most_2, i_9))), m0) some = qbu_B0 n l_0 recs_1 most_2 i_9 m0 := by kernel_rfl
theorem qbu_f0 (n : Nat) : LoopFact tab (qbu_tbl n) (qbu_loops n) qbu_an [] n 0 qbu_l0 (qbu_L0 n) := ⟨[0, 1, 2, 8, 9], (fun s => qbu_B0 n s.1.1 s.1.2.1 s.1.2.2.1 s.1.2.2.2 s.2), by kernel_rfl, by kernel_rfl, fun s => rfl, fun s => qbu_r0 n s.1.1 s.1.2.1 s.1.2.2.1 s.1.2.2.2 s.2⟩
theorem qbu_run (n : Nat) (l_0 : DA) (recs_1 : Int) (most_2 : Int) : funDS (real _) tab (qbu_tbl n) (qbu_loops n) qbu_an Try.f47 0 qbu_a qbu_res (l_0, (recs_1, most_2)) some = qbu n l_0 recs_1 most_2 := by kernel_rfl
def qbu_E (n : Nat) : Entry := ⟨qbu_a, qbu_res, fun d => qbu n d.1 d.2.1 d.2.2⟩
theorem qbu_ok (n : Nat) : EOK Try.prog 47 (qbu_E n) :=
 EOK.ofS zb zc ze (tbl := qbu_tbl n) (loops := qbu_loops n) (an := qbu_an) (old := []) (n := n) (c := qbu_c) (fn := Try.f47) (TblOK.cons (AllE.cons (qcg_ok n) AllE.nil) (TblOK.cons (AllE.cons (qbz_ok n) AllE.nil) (TblOK.cons (AllE.cons (qcc_ok n) AllE.nil) TblOK.nil))) (by kernel_rfl) (by kernel_rfl) (by kernel_rfl) (by kernel_rfl) (fun d => by kernel_rfl) (LT.cons (by kernel_rfl) (qbu_f0 n) LT.nil) (fun a => qbu_run n a.1 a.2.1 a.2.2)
def qbo_h0 : List StSh := [⟨.normal, [1, 4, 5, 6, 7], (.cons (.ptr 0 0 0 0) (.cons (.int .i64) (.cons .bool (.cons (.msw 1 0) (.cons (.int .i64) .nil))))), (.cons (.bcells 0 false 1 (.cons (.sl true false yA) (.cons (.sl true true yB) (.cons (.sl true true yC) (.cons (.sl true false (.int .u64)) (.cons (.sl true false .str) .nil)))))) (.cons (.bts 0 false false false (.int .u8)) .nil))⟩]
def qbo_o0 : List StSh := [⟨.exit 0, [1, 4, 5, 6], (.cons (.ptr 0 0 0 0) (.cons (.int .i64) (.cons .bool (.cons (.msw 1 0) .nil)))), (.cons (.bcells 0 false 1 (.cons (.sl true false yA) (.cons (.sl true true yB) (.cons (.sl true true yC) (.cons (.sl true false (.int .u64)) (.cons (.sl true false .str) .nil)))))) (.cons (.bts 0 false false false (.int .u8)) .nil))⟩]
def qbo_L0 (n : Nat) : LEntry := ⟨qbo_h0, qbo_o0, qbo_W0 n⟩
def qbs_an : Ann := { boxed := [(4, 3), (6, 5), (8, 5)] }
def qbs_c : Code := (match Try.f49.body with | some c => c | none => .skip)
def qbs_a : StSh := ⟨.normal, [0], (.cons (.agg (.cons (.int .i64) (.cons (.int .i64) (.cons (.int .i64) .nil)))) .nil), .nil⟩
def qce_an : Ann := { live := [(0, [0, 3, 4])] }
def qce_c : Code := (match Try.f101.body with | some c => c | none => .skip)
def qce_l0 : Code := (match assoc 0 (loopsIn qce_c 0) with | some c => c | none => .skip)
def qce_a : StSh := ⟨.normal, [0], (.cons (.int .i64) .nil), .nil⟩
def qce_h0 : List StSh := [⟨.normal, [0, 3, 4], (.cons (.int .i64) (.cons (.sl false false (.int .i64)) (.cons (.int .i64) .nil))), .nil⟩]
def qce_o0 : List StSh := [⟨.ret, [2], (.cons (.int .i64) .nil), .nil⟩, ⟨.exit 0, [], .nil, .nil⟩]
def qce_L0 (n : Nat) : LEntry := ⟨qce_h0, qce_o0, qce_W0 n⟩
def qce_res : List StSh := [⟨.ret, [0], (.cons (.int .i64) .nil), .nil⟩]
def qce_tbl (n : Nat) : FuncId → List Entry := fun f => []
def qce_loops (n : Nat) : Nat → Option LEntry := fun f => bif Nat.beq f 0 then some (qce_L0 n) else none
theorem qce_r0 (n : Nat) (op_0 : Int) (l_3 : DC) (i_4 : Int) : roundK (real _) tab (qce_tbl n) (qce_loops n) qce_an [] qce_l0 0 [0, 3, 4] qce_h0 qce_o0 (op_0, (l_3, i_4)) some = qce_B0 n op_0 l_3 i_4 := by kernel_rfl
theorem qce_f0 (n : Nat) : LoopFact tab (qce_tbl n) (qce_loops n) qce_an [] n 0 qce_l0 (qce_L0 n) := ⟨[0, 3, 4], (fun s => qce_B0 n s.1 s.2.1 s.2.2), by kernel_rfl, by kernel_rfl, fun s => rfl, fun s => qce_r0 n s.1 s.2.1 s.2.2⟩
theorem qce_run (n : Nat) (op_0 : Int) : funDS (real _) tab (qce_tbl n) (qce_loops n) qce_an Try.f101 0 qce_a qce_res op_0 some = qce n op_0 := by kernel_rfl
def qce_E (n : Nat) : Entry := ⟨qce_a, qce_res, fun d => qce n d⟩
theorem qce_ok (n : Nat) : EOK Try.prog 101 (qce_E n) :=
 EOK.ofS zb zc ze (tbl := qce_tbl n) (loops := qce_loops n) (an := qce_an) (old := []) (n := n) (c := qce_c) (fn := Try.f101) TblOK.nil (by kernel_rfl) (by kernel_rfl) (by kernel_rfl) (by kernel_rfl) (fun d => by kernel_rfl) (LT.cons (by kernel_rfl) (qce_f0 n) LT.nil) (fun a => qce_run n a)
def qbs_res : List StSh := [⟨.ret, [0], (.cons (.sl false false (.int .u8)) .nil), .nil⟩]
def qbs_tbl (n : Nat) : FuncId → List Entry := fun f => bif Nat.beq f 101 then [qce_E n] else bif Nat.beq f 46 then [qcg_E n] else []
def qbs_loops (n : Nat) : Nat → Option LEntry := fun f => none
theorem qbs_run (n : Nat) (t0 : Int) (t0_1 : Int) (t0_2 : Int) : funDS (real _) tab (qbs_tbl n) (qbs_loops n) qbs_an Try.f49 0 qbs_a qbs_res (t0, (t0_1, t0_2)) some = qbs n t0 t0_1 t0_2 := by kernel_rfl
def qbs_E (n : Nat) : Entry := ⟨qbs_a, qbs_res, fun d => qbs n d.1 d.2.1 d.2.2⟩
theorem qbs_ok (n : Nat) : EOK Try.prog 49 (qbs_E n) :=
 EOK.ofS zb zc ze (tbl := qbs_tbl n) (loops := qbs_loops n) (an := qbs_an) (old := []) (n := n) (c := qbs_c) (fn := Try.f49) (TblOK.cons (AllE.cons (qce_ok n) AllE.nil) (TblOK.cons (AllE.cons (qcg_ok n) AllE.nil) TblOK.nil)) (by kernel_rfl) (by kernel_rfl) (by kernel_rfl) (by kernel_rfl) (fun d => by kernel_rfl) LT.nil (fun a => qbs_run n a.1 a.2.1 a.2.2)
def qbo_h4 : List StSh := [⟨.normal, [1, 4, 5, 6, 10, 11, 12, 17], (.cons (.ptr 0 0 0 0) (.cons (.int .i64) (.cons .bool (.cons (.msw 1 0) (.cons (.msw 2 0) (.cons (.int .i64) (.cons (.ptr 3 0 0 0) (.cons (.int .i64) .nil)))))))), (.cons (.bcells 0 false 1 (.cons (.sl true false yA) (.cons (.sl true true yB) (.cons (.sl true true yC) (.cons (.sl true false (.int .u64)) (.cons (.sl true false .str) .nil)))))) (.cons (.bts 0 false false false (.int .u8)) (.cons (.bts 0 false false false (.int .u8)) (.cons (.bcells 0 false 1 (.cons (.sl true true yD) (.cons (.int .i64) (.cons (.int .i64) (.cons (.sl true true yD) (.cons (.sl true true yE) .nil)))))) .nil))))⟩]
def qbo_o4 : List StSh := [⟨.ret, [2, 3], (.cons (.sl false false (.int .u8)) (.cons .bool .nil)), (.cons (.bcells 0 false 1 (.cons (.sl true false yA) (.cons (.sl true true yB) (.cons (.sl true true yC) (.cons (.sl true false (.int .u64)) (.cons (.sl true false .str) .nil)))))) (.cons (.bts 0 false false false (.int .u8)) (.cons (.bts 0 false false false (.int .u8)) (.cons (.bcells 0 false 1 (.cons (.sl true true yD) (.cons (.int .i64) (.cons (.int .i64) (.cons (.sl true true yD) (.cons (.sl true true yE) .nil)))))) .nil))))⟩, ⟨.exit 4, [1, 4, 5, 6, 10, 11], (.cons (.ptr 0 0 0 0) (.cons (.int .i64) (.cons .bool (.cons (.msw 1 0) (.cons (.msw 2 0) (.cons (.int .i64) .nil)))))), (.cons (.bcells 0 false 1 (.cons (.sl true false yA) (.cons (.sl true true yB) (.cons (.sl true true yC) (.cons (.sl true false (.int .u64)) (.cons (.sl true false .str) .nil)))))) (.cons (.bts 0 false false false (.int .u8)) (.cons (.bts 0 false false false (.int .u8)) (.cons (.bcells 0 false 1 (.cons (.sl true true yD) (.cons (.int .i64) (.cons (.int .i64) (.cons (.sl true true yD) (.cons (.sl true true yE) .nil)))))) .nil))))⟩]
def qbo_L4 (n : Nat) : LEntry := ⟨qbo_h4, qbo_o4, qbo_W4 n⟩
def qbo_h2 : List StSh := [⟨.normal, [1, 4, 5, 6, 10, 11], (.cons (.ptr 0 0 0 0) (.cons (.int .i64) (.cons .bool (.cons (.msw 1 0) (.cons (.msw 2 0) (.cons (.int .i64) .nil)))))), (.cons (.bcells 0 false 1 (.cons (.sl true false yA) (.cons (.sl true true yB) (.cons (.sl true true yC) (.cons (.sl true false (.int .u64)) (.cons (.sl true false .str) .nil)))))) (.cons (.bts 0 false false false (.int .u8)) (.cons (.bts 0 false false false (.int .u8)) .nil)))⟩]
def qbo_o2 : List StSh := [⟨.ret, [2, 3], (.cons (.sl false false (.int .u8)) (.cons .bool .nil)), (.cons (.bcells 0 false 1 (.cons (.sl true false yA) (.cons (.sl true true yB) (.cons (.sl true true yC) (.cons (.sl true false (.int .u64)) (.cons (.sl true false .str) .nil)))))) (.cons (.bts 0 false false false (.int .u8)) (.cons (.bts 0 false false false (.int .u8)) (.cons (.bcells 0 false 1 (.cons (.sl true true yD) (.cons (.int .i64) (.cons (.int .i64) (.cons (.sl true true yD) (.cons (.sl true true yE) .nil)))))) .nil))))⟩, ⟨.exit 2, [1, 4, 5, 6, 10], (.cons (.ptr 0 0 0 0) (.cons (.int .i64) (.cons .bool (.cons (.msw 1 0) (.cons (.msw 2 0) .nil))))), (.cons (.bcells 0 false 1 (.cons (.sl true false yA) (.cons (.sl true true yB) (.cons (.sl true true yC) (.cons (.sl true false (.int .u64)) (.cons (.sl true false .str) .nil)))))) (.cons (.bts 0 false false false (.int .u8)) (.cons (.bts 0 false false false (.int .u8)) .nil)))⟩]
def qbo_L2 (n : Nat) : LEntry := ⟨qbo_h2, qbo_o2, qbo_W2 n⟩
def qbo_h6 : List StSh := [⟨.normal, [1, 4, 5, 6, 10, 19, 20], (.cons (.ptr 0 0 0 0) (.cons (.int .i64) (.cons .bool (.cons (.msw 1 0) (.cons (.msw 2 0) (.cons (.msw 3 0) (.cons (.int .i64) .nil))))))), (.cons (.bcells 0 false 1 (.cons (.sl true false yA) (.cons (.sl true true yB) (.cons (.sl true true yC) (.cons (.sl true false (.int .u64)) (.cons (.sl true false .str) .nil)))))) (.cons (.bts 0 false false false (.int .u8)) (.cons (.bts 0 false false false (.int .u8)) (.cons (.bts 0 false false false (.int .u8)) .nil))))⟩]
def qbo_o6 : List StSh := [⟨.exit 6, [1, 5, 6, 10, 19], (.cons (.ptr 0 0 0 0) (.cons .bool (.cons (.msw 1 0) (.cons (.msw 2 0) (.cons (.msw 3 0) .nil))))), (.cons (.bcells 0 false 1 (.cons (.sl true false yA) (.cons (.sl true true yB) (.cons (.sl true true yC) (.cons (.sl true false (.int .u64)) (.cons (.sl true false .str) .nil)))))) (.cons (.bts 0 false false false (.int .u8)) (.cons (.bts 0 false false false (.int .u8)) (.cons (.bts 0 false false false (.int .u8)) .nil))))⟩]
def qbo_L6 (n : Nat) : LEntry := ⟨qbo_h6, qbo_o6, qbo_W6 n⟩
def qbv_an : Ann := { live := [(0, [0, 1, 5, 6])], boxed := [(1, 0), (5, 5)] }
def qbv_c : Code := (match Try.f50.body with | some c => c | none => .skip)
def qbv_l0 : Code := (match assoc 0 (loopsIn qbv_c 0) with | some c => c | none => .skip)
def qbv_a : StSh := ⟨.normal, [0, 1], (.cons (.int .u64) (.cons (.int .i64) .nil)), .nil⟩
def qbv_h0 : List StSh := [⟨.normal, [0, 1, 5, 6], (.cons (.int .u64) (.cons (.int .i64) (.cons (.msw 0 0) (.cons (.int .i64) .nil)))), (.cons (.bts 0 false false false (.int .u8)) .nil)⟩]
def qbv_o0 : List StSh := [⟨.exit 0, [5], (.cons (.msw 0 0) .nil), (.cons (.bts 0 false false false (.int .u8)) .nil)⟩]
def qbv_L0 (n : Nat) : LEntry := ⟨qbv_h0, qbv_o0, qbv_W0 n⟩
def qbv_res : List StSh := [⟨.ret, [0], (.cons (.sl false false (.int .u8)) .nil), .nil⟩]
def qbv_tbl (n : Nat) : FuncId → List Entry := fun f => []
def qbv_loops (n : Nat) : Nat → Option LEntry := fun f => bif Nat.beq f 0 then some (qbv_L0 n) else none
theorem qbv_r0 (n : Nat) (v_0 : Int) (n_1 : Int) (k_6 : Int) (m0 : DC) : roundK (real _) tab (qbv_tbl n) (qbv_loops n) qbv_an [] qbv_l0 0 [0, 1, 5, 6] qbv_h0 qbv_o0 ((v_0, (n_1, k_6)), m0) some = qbv_B0 n v_0 n_1 k_6 m0 := by kernel_rfl
theorem qbv_f0 (n : Nat) : LoopFact tab (qbv_tbl n) (qbv_loops n) qbv_an [] n 0 qbv_l0 (qbv_L0 n) := ⟨[0, 1, 5, 6], (fun s => qbv_B0 n s.1.1 s.1.2.1 s.1.2.2 s.2), by kernel_rfl, by kernel_rfl, fun s => rfl, fun s => qbv_r0 n s.1.1 s.1.2.1 s.1.2.2 s.2⟩
theorem qbv_run (n : Nat) (v_0 : Int) (n_1 : Int) : funDS (real _) tab (qbv_tbl n) (qbv_loops n) qbv_an Try.f50 0 qbv_a qbv_res (v_0, n_1) some = qbv n v_0 n_1 := by kernel_rfl
def qbv_E (n : Nat) : Entry := ⟨qbv_a, qbv_res, fun d => qbv n d.1 d.2⟩
theorem qbv_ok (n : Nat) : EOK Try.prog 50 (qbv_E n) :=
 EOK.ofS zb zc ze (tbl := qbv_tbl n) (loops := qbv_loops n) (an := qbv_an) (old := []) (n := n) (c := qbv_c) (fn := Try.f50) TblOK.nil (by kernel_rfl) (by kernel_rfl) (by kernel_rfl) (by kernel_rfl) (fun d => by kernel_rfl) (LT.cons (by kernel_rfl) (qbv_f0 n) LT.nil) (fun a => qbv_run n a.1 a.2)
def qbo_h8 : List StSh := [⟨.normal, [1, 5, 6, 10, 19, 23, 24], (.cons (.ptr 0 0 0 0) (.cons .bool (.cons (.msw 1 0) (.cons (.msw 2 0) (.cons (.msw 3 0) (.cons (.msw 4 0) (.cons (.int .i64) .nil))))))), (.cons (.bcells 0 false 1 (.cons (.sl true false yA) (.cons (.sl true true yB) (.cons (.sl true true yC) (.cons (.sl true false (.int .u64)) (.cons (.sl true false .str) .nil)))))) (.cons (.bts 0 false false false (.int .u8)) (.cons (.bts 0 false false false (.int .u8)) (.cons (.bts 0 false false false (.int .u8)) (.cons (.bts 0 false false false (.int .u8)) .nil)))))⟩]
def qbo_o8 : List StSh := [⟨.exit 8, [1, 5, 6, 10, 19, 23], (.cons (.ptr 0 0 0 0) (.cons .bool (.cons (.msw 1 0) (.cons (.msw 2 0) (.cons (.msw 3 0) (.cons (.msw 4 0) .nil)))))), (.cons (.bcells 0 false 1 (.cons (.sl true false yA) (.cons (.sl true true yB) (.cons (.sl true true yC) (.cons (.sl true false (.int .u64)) (.cons (.sl true false .str) .nil)))))) (.cons (.bts 0 false false false (.int .u8)) (.cons (.bts 0 false false false (.int .u8)) (.cons (.bts 0 false false false (.int .u8)) (.cons (.bts 0 false false false (.int .u8)) .nil)))))⟩]
def qbo_L8 (n : Nat) : LEntry := ⟨qbo_h8, qbo_o8, qbo_W8 n⟩
def qbo_h10 : List StSh := [⟨.normal, [1, 5, 6, 10, 19, 23, 25, 26], (.cons (.ptr 0 0 0 0) (.cons .bool (.cons (.msw 1 0) (.cons (.msw 2 0) (.cons (.msw 3 0) (.cons (.msw 4 0) (.cons (.msw 5 0) (.cons (.int .i64) .nil)))))))), (.cons (.bcells 0 false 1 (.cons (.sl true false yA) (.cons (.sl true true yB) (.cons (.sl true true yC) (.cons (.sl true false (.int .u64)) (.cons (.sl true false .str) .nil)))))) (.cons (.bts 0 false false false (.int .u8)) (.cons (.bts 0 false false false (.int .u8)) (.cons (.bts 0 false false false (.int .u8)) (.cons (.bts 0 false false false (.int .u8)) (.cons (.bts 0 false false false (.int .u8)) .nil))))))⟩]
def qbo_o10 : List StSh := [⟨.exit 10, [5, 6, 10, 19, 23, 25], (.cons .bool (.cons (.msw 1 0) (.cons (.msw 2 0) (.cons (.msw 3 0) (.cons (.msw 4 0) (.cons (.msw 5 0) .nil)))))), (.cons (.bcells 0 false 1 (.cons (.sl true false yA) (.cons (.sl true true yB) (.cons (.sl true true yC) (.cons (.sl true false (.int .u64)) (.cons (.sl true false .str) .nil)))))) (.cons (.bts 0 false false false (.int .u8)) (.cons (.bts 0 false false false (.int .u8)) (.cons (.bts 0 false false false (.int .u8)) (.cons (.bts 0 false false false (.int .u8)) (.cons (.bts 0 false false false (.int .u8)) .nil))))))⟩]
def qbo_L10 (n : Nat) : LEntry := ⟨qbo_h10, qbo_o10, qbo_W10 n⟩
def qcb_an : Ann := { live := [(0, [0, 3, 4])], boxed := [(5, 8), (5, 13)], raw := [(1, 3)] }
def qcb_c : Code := (match Try.f51.body with | some c => c | none => .skip)
def qcb_l0 : Code := (match assoc 0 (loopsIn qcb_c 0) with | some c => c | none => .skip)
def qcb_a : StSh := ⟨.normal, [0], (.cons (.sl true false yF) .nil), .nil⟩
def qcb_h0 : List StSh := [⟨.normal, [0, 3, 4], (.cons (.sl true false yF) (.cons (.msw 0 0) (.cons (.int .i64) .nil))), (.cons (.bts 0 false false false (.int .u8)) .nil)⟩]
def qcb_o0 : List StSh := [⟨.exit 0, [3], (.cons (.msw 0 0) .nil), (.cons (.bts 0 false false false (.int .u8)) .nil)⟩]
def qcb_L0 (n : Nat) : LEntry := ⟨qcb_h0, qcb_o0, qcb_W0 n⟩
def qcb_res : List StSh := [⟨.ret, [0], (.cons (.sl false false (.int .u8)) .nil), .nil⟩]
def qcb_tbl (n : Nat) : FuncId → List Entry := fun f => bif Nat.beq f 46 then [qcg_E n] else []
def qcb_loops (n : Nat) : Nat → Option LEntry := fun f => bif Nat.beq f 0 then some (qcb_L0 n) else none
theorem qcb_r0 (n : Nat) (l_0 : DK) (i_4 : Int) (m0 : DC) : roundK (real _) tab (qcb_tbl n) (qcb_loops n) qcb_an [] qcb_l0 0 [0, 3, 4] qcb_h0 qcb_o0 ((l_0, i_4), m0) some = qcb_B0 n l_0 i_4 m0 := by kernel_rfl
theorem qcb_f0 (n : Nat) : LoopFact tab (qcb_tbl n) (qcb_loops n) qcb_an [] n 0 qcb_l0 (qcb_L0 n) := ⟨[0, 3, 4], (fun s => qcb_B0 n s.1.1 s.1.2 s.2), by kernel_rfl, by kernel_rfl, fun s => rfl, fun s => qcb_r0 n s.1.1 s.1.2 s.2⟩
theorem qcb_run (n : Nat) (l_0 : DK) : funDS (real _) tab (qcb_tbl n) (qcb_loops n) qcb_an Try.f51 0 qcb_a qcb_res l_0 some = qcb n l_0 := by kernel_rfl
def qcb_E (n : Nat) : Entry := ⟨qcb_a, qcb_res, fun d => qcb n d⟩
theorem qcb_ok (n : Nat) : EOK Try.prog 51 (qcb_E n) :=
 EOK.ofS zb zc ze (tbl := qcb_tbl n) (loops := qcb_loops n) (an := qcb_an) (old := []) (n := n) (c := qcb_c) (fn := Try.f51) (TblOK.cons (AllE.cons (qcg_ok n) AllE.nil) TblOK.nil) (by kernel_rfl) (by kernel_rfl) (by kernel_rfl) (by kernel_rfl) (fun d => by kernel_rfl) (LT.cons (by kernel_rfl) (qcb_f0 n) LT.nil) (fun a => qcb_run n a)
def qbo_res : List StSh := [⟨.ret, [0], (.cons (.tup (.cons (.sl false false (.int .u8)) (.cons .bool .nil))) .nil), .nil⟩]
def qbo_tbl (n : Nat) : FuncId → List Entry := fun f => bif Nat.beq f 46 then [qcg_E n] else bif Nat.beq f 47 then [qbu_E n] else bif Nat.beq f 18 then [qbz_E n] else bif Nat.beq f 48 then [qcc_E n] else bif Nat.beq f 49 then [qbs_E n] else bif Nat.beq f 50 then [qbv_E n] else bif Nat.beq f 51 then [qcb_E n] else []
def qbo_loops (n : Nat) : Nat → Option LEntry := fun f => bif Nat.beq f 0 then some (qbo_L0 n) else bif Nat.beq f 4 then some (qbo_L4 n) else bif Nat.beq f 2 then some (qbo_L2 n) else bif Nat.beq f 6 then some (qbo_L6 n) else bif Nat.beq f 8 then some (qbo_L8 n) else bif Nat.beq f 10 then some (qbo_L10 n) else none
theorem qbo_r0 (n : Nat) (t4 : Int) (t5 : Bool) (t7 : Int) (m0 : DH) (m0_1 : DI) (m0_2 : DJ) (m0_3 : DC) (m0_4 : DD) (m1 : DC) : roundK (real _) tab (qbo_tbl n) (qbo_loops n) qbo_an [] qbo_l0 0 [1, 4, 5, 6, 7] qbo_h0 qbo_o0 ((t4, (t5, t7)), ((m0, (m0_1, (m0_2, (m0_3, m0_4)))), m1)) some = qbo_B0 n t4 t5 t7 m0 m0_1 m0_2 m0_3 m0_4 m1 := by kernel_rfl
theorem qbo_f0 (n : Nat) : LoopFact tab (qbo_tbl n) (qbo_loops n) qbo_an [] n 0 qbo_l0 (qbo_L0 n) := ⟨[1, 4, 5, 6, 7], (fun s => qbo_B0 n s.1.1 s.1.2.1 s.1.2.2 s.2.1.1 s.2.1.2.1 s.2.1.2.2.1 s.2.1.2.2.2.1 s.2.1.2.2.2.2 s.2.2), by kernel_rfl, by kernel_rfl, fun s => rfl, fun s => qbo_r0 n s.1.1 s.1.2.1 s.1.2.2 s.2.1.1 s.2.1.2.1 s.2.1.2.2.1 s.2.1.2.2.2.1 s.2.1.2.2.2.2 s.2.2⟩
theorem qbo_r4 (n : Nat) (t4 : Int) (t5 : Bool) (t11 : Int) (t17 : Int) (m0 : DH) (m0_1 : DI) (m0_2 : DJ) (m0_3 : DC) (m0_4 : DD) (m1 : DC) (m2 : DC) (m3 : DA) (m3_1 : Int) (m3_2 : Int) (m3_3 : DA) (m3_4 : DB) : roundK (real _) tab (qbo_tbl n) (qbo_loops n) qbo_an [] qbo_l4 4 [1, 4, 5, 6, 10, 11, 12, 17] qbo_h4 qbo_o4 ((t4, (t5, (t11, t17))), ((m0, (m0_1, (m0_2, (m0_3, m0_4)))), (m1, (m2, (m3, (m3_1, (m3_2, (m3_3, m3_4)))))))) some = qbo_B4 n t4 t5 t11 t17 m0 m0_1 m0_2 m0_3 m0_4 m1 m2 m3 m3_1 m3_2 m3_3 m3_4 := by kernel_rfl
theorem qbo_f4 (n : Nat) : LoopFact tab (qbo_tbl n) (qbo_loops n) qbo_an [] n 4 qbo_l4 (qbo_L4 n) := ⟨[1, 4, 5, 6, 10, 11, 12, 17], (fun s => qbo_B4 n s.1.1 s.1.2.1 s.1.2.2.1 s.1.2.2.2 s.2.1.1 s.2.1.2.1 s.2.1.2.2.1 s.2.1.2.2.2.1 s.2.1.2.2.2.2 s.2.2.1 s.2.2.2.1 s.2.2.2.2.1 s.2.2.2.2.2.1 s.2.2.2.2.2.2.1 s.2.2.2.2.2.2.2.1 s.2.2.2.2.2.2.2.2), by kernel_rfl, by kernel_rfl, fun s => rfl, fun s => qbo_r4 n s.1.1 s.1.2.1 s.1.2.2.1 s.1.2.2.2 s.2.1.1 s.2.1.2.1 s.2.1.2.2.1 s.2.1.2.2.2.1 s.2.1.2.2.2.2 s.2.2.1 s.2.2.2.1 s.2.2.2.2.1 s.2.2.2.2.2.1 s.2.2.2.2.2.2.1 s.2.2.2.2.2.2.2.1 s.2.2.2.2.2.2.2.2⟩
theorem qbo_r2 (n : Nat) (t4 : Int) (t5 : Bool) (t11 : Int) (m0 : DH) (m0_1 : DI) (m0_2 : DJ) (m0_3 : DC) (m0_4 : DD) (m1 : DC) (m2 : DC) : roundK (real _) tab (qbo_tbl n) (qbo_loops n) qbo_an [] qbo_l2 2 [1, 4, 5, 6, 10, 11] qbo_h2 qbo_o2 ((t4, (t5, t11)), ((m0, (m0_1, (m0_2, (m0_3, m0_4)))), (m1, m2))) some = qbo_B2 n t4 t5 t11 m0 m0_1 m0_2 m0_3 m0_4 m1 m2 := by kernel_rfl
theorem qbo_f2 (n : Nat) : LoopFact tab (qbo_tbl n) (qbo_loops n) qbo_an [] n 2 qbo_l2 (qbo_L2 n) := ⟨[1, 4, 5, 6, 10, 11], (fun s => qbo_B2 n s.1.1 s.1.2.1 s.1.2.2 s.2.1.1 s.2.1.2.1 s.2.1.2.2.1 s.2.1.2.2.2.1 s.2.1.2.2.2.2 s.2.2.1 s.2.2.2), by kernel_rfl, by kernel_rfl, fun s => rfl, fun s => qbo_r2 n s.1.1 s.1.2.1 s.1.2.2 s.2.1.1 s.2.1.2.1 s.2.1.2.2.1 s.2.1.2.2.2.1 s.2.1.2.2.2.2 s.2.2.1 s.2.2.2⟩
theorem qbo_r6 (n : Nat) (t4 : Int) (t5 : Bool) (t20 : Int) (m0 : DH) (m0_1 : DI) (m0_2 : DJ) (m0_3 : DC) (m0_4 : DD) (m1 : DC) (m2 : DC) (m3 : DC) : roundK (real _) tab (qbo_tbl n) (qbo_loops n) qbo_an [] qbo_l6 6 [1, 4, 5, 6, 10, 19, 20] qbo_h6 qbo_o6 ((t4, (t5, t20)), ((m0, (m0_1, (m0_2, (m0_3, m0_4)))), (m1, (m2, m3)))) some = qbo_B6 n t4 t5 t20 m0 m0_1 m0_2 m0_3 m0_4 m1 m2 m3 := by kernel_rfl
theorem qbo_f6 (n : Nat) : LoopFact tab (qbo_tbl n) (qbo_loops n) qbo_an [] n 6 qbo_l6 (qbo_L6 n) := ⟨[1, 4, 5, 6, 10, 19, 20], (fun s => qbo_B6 n s.1.1 s.1.2.1 s.1.2.2 s.2.1.1 s.2.1.2.1 s.2.1.2.2.1 s.2.1.2.2.2.1 s.2.1.2.2.2.2 s.2.2.1 s.2.2.2.1 s.2.2.2.2), by kernel_rfl, by kernel_rfl, fun s => rfl, fun s => qbo_r6 n s.1.1 s.1.2.1 s.1.2.2 s.2.1.1 s.2.1.2.1 s.2.1.2.2.1 s.2.1.2.2.2.1 s.2.1.2.2.2.2 s.2.2.1 s.2.2.2.1 s.2.2.2.2⟩
theorem qbo_r8 (n : Nat) (t5 : Bool) (t24 : Int) (m0 : DH) (m0_1 : DI) (m0_2 : DJ) (m0_3 : DC) (m0_4 : DD) (m1 : DC) (m2 : DC) (m3 : DC) (m4 : DC) : roundK (real _) tab (qbo_tbl n) (qbo_loops n) qbo_an [] qbo_l8 8 [1, 5, 6, 10, 19, 23, 24] qbo_h8 qbo_o8 ((t5, t24), ((m0, (m0_1, (m0_2, (m0_3, m0_4)))), (m1, (m2, (m3, m4))))) some = qbo_B8 n t5 t24 m0 m0_1 m0_2 m0_3 m0_4 m1 m2 m3 m4 := by kernel_rfl
theorem qbo_f8 (n : Nat) : LoopFact tab (qbo_tbl n) (qbo_loops n) qbo_an [] n 8 qbo_l8 (qbo_L8 n) := ⟨[1, 5, 6, 10, 19, 23, 24], (fun s => qbo_B8 n s.1.1 s.1.2 s.2.1.1 s.2.1.2.1 s.2.1.2.2.1 s.2.1.2.2.2.1 s.2.1.2.2.2.2 s.2.2.1 s.2.2.2.1 s.2.2.2.2.1 s.2.2.2.2.2), by kernel_rfl, by kernel_rfl, fun s => rfl, fun s => qbo_r8 n s.1.1 s.1.2 s.2.1.1 s.2.1.2.1 s.2.1.2.2.1 s.2.1.2.2.2.1 s.2.1.2.2.2.2 s.2.2.1 s.2.2.2.1 s.2.2.2.2.1 s.2.2.2.2.2⟩
theorem qbo_r10 (n : Nat) (t5 : Bool) (t26 : Int) (m0 : DH) (m0_1 : DI) (m0_2 : DJ) (m0_3 : DC) (m0_4 : DD) (m1 : DC) (m2 : DC) (m3 : DC) (m4 : DC) (m5 : DC) : roundK (real _) tab (qbo_tbl n) (qbo_loops n) qbo_an [] qbo_l10 10 [1, 5, 6, 10, 19, 23, 25, 26] qbo_h10 qbo_o10 ((t5, t26), ((m0, (m0_1, (m0_2, (m0_3, m0_4)))), (m1, (m2, (m3, (m4, m5)))))) some = qbo_B10 n t5 t26 m0 m0_1 m0_2 m0_3 m0_4 m1 m2 m3 m4 m5 := by kernel_rfl
theorem qbo_f10 (n : Nat) : LoopFact tab (qbo_tbl n) (qbo_loops n) qbo_an [] n 10 qbo_l10 (qbo_L10 n) := ⟨[1, 5, 6, 10, 19, 23, 25, 26], (fun s => qbo_B10 n s.1.1 s.1.2 s.2.1.1 s.2.1.2.1 s.2.1.2.2.1 s.2.1.2.2.2.1 s.2.1.2.2.2.2 s.2.2.1 s.2.2.2.1 s.2.2.2.2.1 s.2.2.2.2.2.1 s.2.2.2.2.2.2), by kernel_rfl, by kernel_rfl, fun s => rfl, fun s => qbo_r10 n s.1.1 s.1.2 s.2.1.1 s.2.1.2.1 s.2.1.2.2.1 s.2.1.2.2.2.1 s.2.1.2.2.2.2 s.2.2.1 s.2.2.2.1 s.2.2.2.2.1 s.2.2.2.2.2.1 s.2.2.2.2.2.2⟩
theorem qbo_run (n : Nat) (t0 : DH) (t0_1 : DI) (t0_2 : DJ) (t0_3 : DC) (t0_4 : DD) : funDS (real _) tab (qbo_tbl n) (qbo_loops n) qbo_an Try.f21 0 qbo_a qbo_res (t0, (t0_1, (t0_2, (t0_3, t0_4)))) some = qbo n t0 t0_1 t0_2 t0_3 t0_4 := by kernel_rfl
def qbo_E (n : Nat) : Entry := ⟨qbo_a, qbo_res, fun d => qbo n d.1 d.2.1 d.2.2.1 d.2.2.2.1 d.2.2.2.2⟩
theorem qbo_ok (n : Nat) : EOK Try.prog 21 (qbo_E n) :=
 EOK.ofS zb zc ze (tbl := qbo_tbl n) (loops := qbo_loops n) (an := qbo_an) (old := []) (n := n) (c := qbo_c) (fn := Try.f21) (TblOK.cons (AllE.cons (qcg_ok n) AllE.nil) (TblOK.cons (AllE.cons (qbu_ok n) AllE.nil) (TblOK.cons (AllE.cons (qbz_ok n) AllE.nil) (TblOK.cons (AllE.cons (qcc_ok n) AllE.nil) (TblOK.cons (AllE.cons (qbs_ok n) AllE.nil) (TblOK.cons (AllE.cons (qbv_ok n) AllE.nil) (TblOK.cons (AllE.cons (qcb_ok n) AllE.nil) TblOK.nil))))))) (by kernel_rfl) (by kernel_rfl) (by kernel_rfl) (by kernel_rfl) (fun d => by kernel_rfl) (LT.cons (by kernel_rfl) (qbo_f0 n) (LT.cons (by kernel_rfl) (qbo_f4 n) (LT.cons (by kernel_rfl) (qbo_f2 n) (LT.cons (by kernel_rfl) (qbo_f6 n) (LT.cons (by kernel_rfl) (qbo_f8 n) (LT.cons (by kernel_rfl) (qbo_f10 n) LT.nil)))))) (fun a => qbo_run n a.1 a.2.1 a.2.2.1 a.2.2.2.1 a.2.2.2.2)
def qu_an : Ann := { live := [(0, [2, 3, 5]), (2, [2, 3, 6]), (4, [2, 3, 6, 7, 8, 9]), (6, [2, 3, 10]), (8, [2, 3, 11]), (10, [2, 3, 12])] }
def qu_c : Code := (match Try.f25.body with | some c => c | none => .skip)
def qu_l0 : Code := (match assoc 0 (loopsIn qu_c 0) with | some c => c | none => .skip)
def qu_l2 : Code := (match assoc 2 (loopsIn qu_c 0) with | some c => c | none => .skip)
def qu_l4 : Code := (match assoc 4 (loopsIn qu_c 0) with | some c => c | none => .skip)
def qu_l6 : Code := (match assoc 6 (loopsIn qu_c 0) with | some c => c | none => .skip)
def qu_l8 : Code := (match assoc 8 (loopsIn qu_c 0) with | some c => c | none => .skip)
def qu_l10 : Code := (match assoc 10 (loopsIn qu_c 0) with | some c => c | none => .skip)
def qu_a : StSh := ⟨.normal, [0, 1], (.cons (.agg (.cons (.sl true false yA) (.cons (.sl true true yB) (.cons (.sl true true yC) (.cons (.sl true false (.int .u64)) (.cons (.sl true false .str) .nil)))))) (.cons (.agg (.cons (.sl true false yA) (.cons (.sl true true yB) (.cons (.sl true true yC) (.cons (.sl true false (.int .u64)) (.cons (.sl true false .str) .nil)))))) .nil)), .nil⟩
def qbd_an : Ann := { live := [(0, [0, 1, 5])] }
def qbd_c : Code := (match Try.f72.body with | some c => c | none => .skip)
def qbd_l0 : Code := (match assoc 0 (loopsIn qbd_c 0) with | some c => c | none => .skip)
def qbd_a : StSh := ⟨.normal, [0, 1], (.cons (.sl true true yD) (.cons (.sl true true yD) .nil)), .nil⟩
def qbd_h0 : List StSh := [⟨.normal, [0, 1, 5], (.cons (.sl true true yD) (.cons (.sl true true yD) (.cons (.int .i64) .nil))), .nil⟩]
def qbd_o0 : List StSh := [⟨.ret, [4], (.cons .bool .nil), .nil⟩, ⟨.exit 0, [], .nil, .nil⟩]
def qbd_L0 (n : Nat) : LEntry := ⟨qbd_h0, qbd_o0, qbd_W0 n⟩
def qbd_res : List StSh := [⟨.ret, [0], (.cons .bool .nil), .nil⟩]
def qbd_tbl (n : Nat) : FuncId → List Entry := fun f => []
def qbd_loops (n : Nat) : Nat → Option LEntry := fun f => bif Nat.beq f 0 then some (qbd_L0 n) else none
theorem qbd_r0 (n : Nat) (a_0 : DA) (b_1 : DA) (i_5 : Int) : roundK (real _) tab (qbd_tbl n) (qbd_loops n) qbd_an [] qbd_l0 0 [0, 1, 5] qbd_h0 qbd_o0 (a_0, (b_1, i_5)) some = qbd_B0 n a_0 b_1 i_5 := by kernel_rfl
theorem qbd_f0 (n : Nat) : LoopFact tab (qbd_tbl n) (qbd_loops n) qbd_an [] n 0 qbd_l0 (qbd_L0 n) := ⟨[0, 1, 5], (fun s => qbd_B0 n s.1 s.2.1 s.2.2), by kernel_rfl, by kernel_rfl, fun s => rfl, fun s => qbd_r0 n s.1 s.2.1 s.2.2⟩
theorem qbd_run (n : Nat) (a_0 : DA) (b_1 : DA) : funDS (real _) tab (qbd_tbl n) (qbd_loops n) qbd_an Try.f72 0 qbd_a qbd_res (a_0, b_1) some = qbd n a_0 b_1 := by kernel_rfl
def qbd_E (n : Nat) : Entry := ⟨qbd_a, qbd_res, fun d => qbd n d.1 d.2⟩
theorem qbd_ok (n : Nat) : EOK Try.prog 72 (qbd_E n) :=
 EOK.ofS zb zc ze (tbl := qbd_tbl n) (loops := qbd_loops n) (an := qbd_an) (old := []) (n := n) (c := qbd_c) (fn := Try.f72) TblOK.nil (by kernel_rfl) (by kernel_rfl) (by kernel_rfl) (by kernel_rfl) (fun d => by kernel_rfl) (LT.cons (by kernel_rfl) (qbd_f0 n) LT.nil) (fun a => qbd_run n a.1 a.2)
def qu_h0 : List StSh := [⟨.normal, [2, 3, 5], (.cons (.ptr 0 0 0 0) (.cons (.ptr 1 0 0 0) (.cons (.int .i64) .nil))), (.cons (.bcells 0 false 1 (.cons (.sl true false yA) (.cons (.sl true true yB) (.cons (.sl true true yC) (.cons (.sl true false (.int .u64)) (.cons (.sl true false .str) .nil)))))) (.cons (.bcells 0 false 1 (.cons (.sl true false yA) (.cons (.sl true true yB) (.cons (.sl true true yC) (.cons (.sl true false (.int .u64)) (.cons (.sl true false .str) .nil)))))) .nil))⟩]
def qu_o0 : List StSh := [⟨.ret, [4], (.cons .bool .nil), (.cons (.bcells 0 false 1 (.cons (.sl true false yA) (.cons (.sl true true yB) (.cons (.sl true true yC) (.cons (.sl true false (.int .u64)) (.cons (.sl true false .str) .nil)))))) (.cons (.bcells 0 false 1 (.cons (.sl true false yA) (.cons (.sl true true yB) (.cons (.sl true true yC) (.cons (.sl true false (.int .u64)) (.cons (.sl true false .str) .nil)))))) .nil))⟩, ⟨.exit 0, [2, 3], (.cons (.ptr 0 0 0 0) (.cons (.ptr 1 0 0 0) .nil)), (.cons (.bcells 0 false 1 (.cons (.sl true false yA) (.cons (.sl true true yB) (.cons (.sl true true yC) (.cons (.sl true false (.int .u64)) (.cons (.sl true false .str) .nil)))))) (.cons (.bcells 0 false 1 (.cons (.sl true false yA) (.cons (.sl true true yB) (.cons (.sl true true yC) (.cons (.sl true false (.int .u64)) (.cons (.sl true false .str) .nil)))))) .nil))⟩]
def qu_L0 (n : Nat) : LEntry := ⟨qu_h0, qu_o0, qu_W0 n⟩
def qu_h4 : List StSh := [⟨.normal, [2, 3, 6, 7, 8, 9], (.cons (.ptr 0 0 0 0) (.cons (.ptr 1 0 0 0) (.cons (.int .i64) (.cons (.ptr 2 0 0 0) (.cons (.ptr 3 0 0 0) (.cons (.int .i64) .nil)))))), (.cons (.bcells 0 false 1 (.cons (.sl true false yA) (.cons (.sl true true yB) (.cons (.sl true true yC) (.cons (.sl true false (.int .u64)) (.cons (.sl true false .str) .nil)))))) (.cons (.bcells 0 false 1 (.cons (.sl true false yA) (.cons (.sl true true yB) (.cons (.sl true true yC) (.cons (.sl true false (.int .u64)) (.cons (.sl true false .str) .nil)))))) (.cons (.bcells 0 false 1 (.cons (.sl true true yD) (.cons (.int .i64) (.cons (.int .i64) (.cons (.sl true true yD) (.cons (.sl true true yE) .nil)))))) (.cons (.bcells 0 false 1 (.cons (.sl true true yD) (.cons (.int .i64) (.cons (.int .i64) (.cons (.sl true true yD) (.cons (.sl true true yE) .nil)))))) .nil))))⟩]
def qu_o4 : List StSh := [⟨.ret, [4], (.cons .bool .nil), (.cons (.bcells 0 false 1 (.cons (.sl true false yA) (.cons (.sl true true yB) (.cons (.sl true true yC) (.cons (.sl true false (.int .u64)) (.cons (.sl true false .str) .nil)))))) (.cons (.bcells 0 false 1 (.cons (.sl true false yA) (.cons (.sl true true yB) (.cons (.sl true true yC) (.cons (.sl true false (.int .u64)) (.cons (.sl true false .str) .nil)))))) (.cons (.bcells 0 false 1 (.cons (.sl true true yD) (.cons (.int .i64) (.cons (.int .i64) (.cons (.sl true true yD) (.cons (.sl true true yE) .nil)))))) (.cons (.bcells 0 false 1 (.cons (.sl true true yD) (.cons (.int .i64) (.cons (.int .i64) (.cons (.sl true true yD) (.cons (.sl true true yE) .nil)))))) .nil))))⟩, ⟨.exit 4, [2, 3, 6], (.cons (.ptr 0 0 0 0) (.cons (.ptr 1 0 0 0) (.cons (.int .i64) .nil))), (.cons (.bcells 0 false 1 (.cons (.sl true false yA) (.cons (.sl true true yB) (.cons (.sl true true yC) (.cons (.sl true false (.int .u64)) (.cons (.sl true false .str) .nil)))))) (.cons (.bcells 0 false 1 (.cons (.sl true false yA) (.cons (.sl true true yB) (.cons (.sl true true yC) (.cons (.sl true false (.int .u64)) (.cons (.sl true false .str) .nil)))))) (.cons (.bcells 0 false 1 (.cons (.sl true true yD) (.cons (.int .i64) (.cons (.int .i64) (.cons (.sl true true yD) (.cons (.sl true true yE) .nil)))))) (.cons (.bcells 0 false 1 (.cons (.sl true true yD) (.cons (.int .i64) (.cons (.int .i64) (.cons (.sl true true yD) (.cons (.sl true true yE) .nil)))))) .nil))))⟩]
def qu_L4 (n : Nat) : LEntry := ⟨qu_h4, qu_o4, qu_W4 n⟩
def qu_h2 : List StSh := [⟨.normal, [2, 3, 6], (.cons (.ptr 0 0 0 0) (.cons (.ptr 1 0 0 0) (.cons (.int .i64) .nil))), (.cons (.bcells 0 false 1 (.cons (.sl true false yA) (.cons (.sl true true yB) (.cons (.sl true true yC) (.cons (.sl true false (.int .u64)) (.cons (.sl true false .str) .nil)))))) (.cons (.bcells 0 false 1 (.cons (.sl true false yA) (.cons (.sl true true yB) (.cons (.sl true true yC) (.cons (.sl true false (.int .u64)) (.cons (.sl true false .str) .nil)))))) .nil))⟩]
def qu_o2 : List StSh := [⟨.ret, [4], (.cons .bool .nil), (.cons (.bcells 0 false 1 (.cons (.sl true false yA) (.cons (.sl true true yB) (.cons (.sl true true yC) (.cons (.sl true false (.int .u64)) (.cons (.sl true false .str) .nil)))))) (.cons (.bcells 0 false 1 (.cons (.sl true false yA) (.cons (.sl true true yB) (.cons (.sl true true yC) (.cons (.sl true false (.int .u64)) (.cons (.sl true false .str) .nil)))))) (.cons (.bcells 0 false 1 (.cons (.sl true true yD) (.cons (.int .i64) (.cons (.int .i64) (.cons (.sl true true yD) (.cons (.sl true true yE) .nil)))))) (.cons (.bcells 0 false 1 (.cons (.sl true true yD) (.cons (.int .i64) (.cons (.int .i64) (.cons (.sl true true yD) (.cons (.sl true true yE) .nil)))))) .nil))))⟩, ⟨.exit 2, [2, 3], (.cons (.ptr 0 0 0 0) (.cons (.ptr 1 0 0 0) .nil)), (.cons (.bcells 0 false 1 (.cons (.sl true false yA) (.cons (.sl true true yB) (.cons (.sl true true yC) (.cons (.sl true false (.int .u64)) (.cons (.sl true false .str) .nil)))))) (.cons (.bcells 0 false 1 (.cons (.sl true false yA) (.cons (.sl true true yB) (.cons (.sl true true yC) (.cons (.sl true false (.int .u64)) (.cons (.sl true false .str) .nil)))))) .nil))⟩]
def qu_L2 (n : Nat) : LEntry := ⟨qu_h2, qu_o2, qu_W2 n⟩
def qu_h6 : List StSh := [⟨.normal, [2, 3, 10], (.cons (.ptr 0 0 0 0) (.cons (.ptr 1 0 0 0) (.cons (.int .i64) .nil))), (.cons (.bcells 0 false 1 (.cons (.sl true false yA) (.cons (.sl true true yB) (.cons (.sl true true yC) (.cons (.sl true false (.int .u64)) (.cons (.sl true false .str) .nil)))))) (.cons (.bcells 0 false 1 (.cons (.sl true false yA) (.cons (.sl true true yB) (.cons (.sl true true yC) (.cons (.sl true false (.int .u64)) (.cons (.sl true false .str) .nil)))))) .nil))⟩]
def qu_o6 : List StSh := [⟨.ret, [4], (.cons .bool .nil), (.cons (.bcells 0 false 1 (.cons (.sl true false yA) (.cons (.sl true true yB) (.cons (.sl true true yC) (.cons (.sl true false (.int .u64)) (.cons (.sl true false .str) .nil)))))) (.cons (.bcells 0 false 1 (.cons (.sl true false yA) (.cons (.sl true true yB) (.cons (.sl true true yC) (.cons (.sl true false (.int .u64)) (.cons (.sl true false .str) .nil)))))) .nil))⟩, ⟨.exit 6, [2, 3], (.cons (.ptr 0 0 0 0) (.cons (.ptr 1 0 0 0) .nil)), (.cons (.bcells 0 false 1 (.cons (.sl true false yA) (.cons (.sl true true yB) (.cons (.sl true true yC) (.cons (.sl true false (.int .u64)) (.cons (.sl true false .str) .nil)))))) (.cons (.bcells 0 false 1 (.cons (.sl true false yA) (.cons (.sl true true yB) (.cons (.sl true true yC) (.cons (.sl true false (.int .u64)) (.cons (.sl true false .str) .nil)))))) .nil))⟩]
def qu_L6 (n : Nat) : LEntry := ⟨qu_h6, qu_o6, qu_W6 n⟩
def qu_h8 : List StSh := [⟨.normal, [2, 3, 11], (.cons (.ptr 0 0 0 0) (.cons (.ptr 1 0 0 0) (.cons (.int .i64) .nil))), (.cons (.bcells 0 false 1 (.cons (.sl true false yA) (.cons (.sl true true yB) (.cons (.sl true true yC) (.cons (.sl true false (.int .u64)) (.cons (.sl true false .str) .nil)))))) (.cons (.bcells 0 false 1 (.cons (.sl true false yA) (.cons (.sl true true yB) (.cons (.sl true true yC) (.cons (.sl true false (.int .u64)) (.cons (.sl true false .str) .nil)))))) .nil))⟩]
def qu_o8 : List StSh := [⟨.ret, [4], (.cons .bool .nil), (.cons (.bcells 0 false 1 (.cons (.sl true false yA) (.cons (.sl true true yB) (.cons (.sl true true yC) (.cons (.sl true false (.int .u64)) (.cons (.sl true false .str) .nil)))))) (.cons (.bcells 0 false 1 (.cons (.sl true false yA) (.cons (.sl true true yB) (.cons (.sl true true yC) (.cons (.sl true false (.int .u64)) (.cons (.sl true false .str) .nil)))))) .nil))⟩, ⟨.exit 8, [2, 3], (.cons (.ptr 0 0 0 0) (.cons (.ptr 1 0 0 0) .nil)), (.cons (.bcells 0 false 1 (.cons (.sl true false yA) (.cons (.sl true true yB) (.cons (.sl true true yC) (.cons (.sl true false (.int .u64)) (.cons (.sl true false .str) .nil)))))) (.cons (.bcells 0 false 1 (.cons (.sl true false yA) (.cons (.sl true true yB) (.cons (.sl true true yC) (.cons (.sl true false (.int .u64)) (.cons (.sl true false .str) .nil)))))) .nil))⟩]
def qu_L8 (n : Nat) : LEntry := ⟨qu_h8, qu_o8, qu_W8 n⟩
def qu_h10 : List StSh := [⟨.normal, [2, 3, 12], (.cons (.ptr 0 0 0 0) (.cons (.ptr 1 0 0 0) (.cons (.int .i64) .nil))), (.cons (.bcells 0 false 1 (.cons (.sl true false yA) (.cons (.sl true true yB) (.cons (.sl true true yC) (.cons (.sl true false (.int .u64)) (.cons (.sl true false .str) .nil)))))) (.cons (.bcells 0 false 1 (.cons (.sl true false yA) (.cons (.sl true true yB) (.cons (.sl true true yC) (.cons (.sl true false (.int .u64)) (.cons (.sl true false .str) .nil)))))) .nil))⟩]
def qu_o10 : List StSh := [⟨.ret, [4], (.cons .bool .nil), (.cons (.bcells 0 false 1 (.cons (.sl true false yA) (.cons (.sl true true yB) (.cons (.sl true true yC) (.cons (.sl true false (.int .u64)) (.cons (.sl true false .str) .nil)))))) (.cons (.bcells 0 false 1 (.cons (.sl true false yA) (.cons (.sl true true yB) (.cons (.sl true true yC) (.cons (.sl true false (.int .u64)) (.cons (.sl true false .str) .nil)))))) .nil))⟩, ⟨.exit 10, [], .nil, (.cons (.bcells 0 false 1 (.cons (.sl true false yA) (.cons (.sl true true yB) (.cons (.sl true true yC) (.cons (.sl true false (.int .u64)) (.cons (.sl true false .str) .nil)))))) (.cons (.bcells 0 false 1 (.cons (.sl true false yA) (.cons (.sl true true yB) (.cons (.sl true true yC) (.cons (.sl true false (.int .u64)) (.cons (.sl true false .str) .nil)))))) .nil))⟩]
def qu_L10 (n : Nat) : LEntry := ⟨qu_h10, qu_o10, qu_W10 n⟩
def qu_res : List StSh := [⟨.ret, [0], (.cons .bool .nil), .nil⟩]
def qu_tbl (n : Nat) : FuncId → List Entry := fun f => bif Nat.beq f 72 then [qbd_E n] else []
def qu_loops (n : Nat) : Nat → Option LEntry := fun f => bif Nat.beq f 0 then some (qu_L0 n) else bif Nat.beq f 4 then some (qu_L4 n) else bif Nat.beq f 2 then some (qu_L2 n) else bif Nat.beq f 6 then some (qu_L6 n) else bif Nat.beq f 8 then some (qu_L8 n) else bif Nat.beq f 10 then some (qu_L10 n) else none
theorem qu_r0 (n : Nat) (t5 : Int) (m0 : DH) (m0_1 : DI) (m0_2 : DJ) (m0_3 : DC) (m0_4 : DD) (m1 : DH) (m1_1 : DI) (m1_2 : DJ) (m1_3 : DC) (m1_4 : DD) : roundK (real _) tab (qu_tbl n) (qu_loops n) qu_an [] qu_l0 0 [2, 3, 5] qu_h0 qu_o0 (t5, ((m0, (m0_1, (m0_2, (m0_3, m0_4)))), (m1, (m1_1, (m1_2, (m1_3, m1_4)))))) some = qu_B0 n t5 m0 m0_1 m0_2 m0_3 m0_4 m1 m1_1 m1_2 m1_3 m1_4 := by kernel_rfl
theorem qu_f0 (n : Nat) : LoopFact tab (qu_tbl n) (qu_loops n) qu_an [] n 0 qu_l0 (qu_L0 n) := ⟨[2, 3, 5], (fun s => qu_B0 n s.1 s.2.1.1 s.2.1.2.1 s.2.1.2.2.1 s.2.1.2.2.2.1 s.2.1.2.2.2.2 s.2.2.1 s.2.2.2.1 s.2.2.2.2.1 s.2.2.2.2.2.1 s.2.2.2.2.2.2), by kernel_rfl, by kernel_rfl, fun s => rfl, fun s => qu_r0 n s.1 s.2.1.1 s.2.1.2.1 s.2.1.2.2.1 s.2.1.2.2.2.1 s.2.1.2.2.2.2 s.2.2.1 s.2.2.2.1 s.2.2.2.2.1 s.2.2.2.2.2.1 s.2.2.2.2.2.2⟩
theorem qu_r4 (n : Nat) (t6 : Int) (t9 : Int) (m0 : DH) (m0_1 : DI) (m0_2 : DJ) (m0_3 : DC) (m0_4 : DD) (m1 : DH) (m1_1 : DI) (m1_2 : DJ) (m1_3 : DC) (m1_4 : DD) (m2 : DA) (m2_1 : Int) (m2_2 : Int) (m2_3 : DA) (m2_4 : DB) (m3 : DA) (m3_1 : Int) (m3_2 : Int) (m3_3 : DA) (m3_4 : DB) : roundK (real _) tab (qu_tbl n) (qu_loops n) qu_an [] qu_l4 4 [2, 3, 6, 7, 8, 9] qu_h4 qu_o4 ((t6, t9), ((m0, (m0_1, (m0_2, (m0_3, m0_4)))), ((m1, (m1_1, (m1_2, (m1_3, m1_4)))), ((m2, (m2_1, (m2_2, (m2_3, m2_4)))), (m3, (m3_1, (m3_2, (m3_3, m3_4)))))))) some = qu_B4 n t6 t9 m0 m0_1 m0_2 m0_3 m0_4 m1 m1_1 m1_2 m1_3 m1_4 m2 m2_1 m2_2 m2_3 m2_4 m3 m3_1 m3_2 m3_3 m3_4 := by kernel_rfl
theorem qu_f4 (n : Nat) : LoopFact tab (qu_tbl n) (qu_loops n) qu_an [] n 4 qu_l4 (qu_L4 n) := ⟨[2, 3, 6, 7, 8, 9], (fun s => qu_B4 n s.1.1 s.1.2 s.2.1.1 s.2.1.2.1 s.2.1.2.2.1 s.2.1.2.2.2.1 s.2.1.2.2.2.2 s.2.2.1.1 s.2.2.1.2.1 s.2.2.1.2.2.1 s.2.2.1.2.2.2.1 s.2.2.1.2.2.2.2 s.2.2.2.1.1 s.2.2.2.1.2.1 s.2.2.2.1.2.2.1 s.2.2.2.1.2.2.2.1 s.2.2.2.1.2.2.2.2 s.2.2.2.2.1 s.2.2.2.2.2.1 s.2.2.2.2.2.2.1 s.2.2.2.2.2.2.2.1 s.2.2.2.2.2.2.2.2), by kernel_rfl, by kernel_rfl, fun s => rfl, fun s => qu_r4 n s.1.1 s.1.2 s.2.1.1 s.2.1.2.1 s.2.1.2.2.1 s.2.1.2.2.2.1 s.2.1.2.2.2.2 s.2.2.1.1 s.2.2.1.2.1 s.2.2.1.2.2.1 s.2.2.1.2.2.2.1 s.2.2.1.2.2.2.2 s.2.2.2.1.1 s.2.2.2.1.2.1 s.2.2.2.1.2.2.1 s.2.2.2.1.2.2.2.1 s.2.2.2.1.2.2.2.2 s.2.2.2.2.1 s.2.2.2.2.2.1 s.2.2.2.2.2.2.1 s.2.2.2.2.2.2.2.1 s.2.2.2.2.2.2.2.2⟩
theorem qu_r2 (n : Nat) (t6 : Int) (m0 : DH) (m0_1 : DI) (m0_2 : DJ) (m0_3 : DC) (m0_4 : DD) (m1 : DH) (m1_1 : DI) (m1_2 : DJ) (m1_3 : DC) (m1_4 : DD) : roundK (real _) tab (qu_tbl n) (qu_loops n) qu_an [] qu_l2 2 [2, 3, 6] qu_h2 qu_o2 (t6, ((m0, (m0_1, (m0_2, (m0_3, m0_4)))), (m1, (m1_1, (m1_2, (m1_3, m1_4)))))) some = qu_B2 n t6 m0 m0_1 m0_2 m0_3 m0_4 m1 m1_1 m1_2 m1_3 m1_4 := by kernel_rfl
theorem qu_f2 (n : Nat) : LoopFact tab (qu_tbl n) (qu_loops n) qu_an [] n 2 qu_l2 (qu_L2 n) := ⟨[2, 3, 6], (fun s => qu_B2 n s.1 s.2.1.1 s.2.1.2.1 s.2.1.2.2.1 s.2.1.2.2.2.1 s.2.1.2.2.2.2 s.2.2.1 s.2.2.2.1 s.2.2.2.2.1 s.2.2.2.2.2.1 s.2.2.2.2.2.2), by kernel_rfl, by kernel_rfl, fun s => rfl, fun s => qu_r2 n s.1 s.2.1.1 s.2.1.2.1 s.2.1.2.2.1 s.2.1.2.2.2.1 s.2.1.2.2.2.2 s.2.2.1 s.2.2.2.1 s.2.2.2.2.1 s.2.2.2.2.2.1 s.2.2.2.2.2.2⟩
theorem qu_r6 (n : Nat) (t10 : Int) (m0 : DH) (m0_1 : DI) (m0_2 : DJ) (m0_3 : DC) (m0_4 : DD) (m1 : DH) (m1_1 : DI) (m1_2 : DJ) (m1_3 : DC) (m1_4 : DD) : roundK (real _) tab (qu_tbl n) (qu_loops n) qu_an [] qu_l6 6 [2, 3, 10] qu_h6 qu_o6 (t10, ((m0, (m0_1, (m0_2, (m0_3, m0_4)))), (m1, (m1_1, (m1_2, (m1_3, m1_4)))))) some = qu_B6 n t10 m0 m0_1 m0_2 m0_3 m0_4 m1 m1_1 m1_2 m1_3 m1_4 := by kernel_rfl
theorem qu_f6 (n : Nat) : LoopFact tab (qu_tbl n) (qu_loops n) qu_an [] n 6 qu_l6 (qu_L6 n) := ⟨[2, 3, 10], (fun s => qu_B6 n s.1 s.2.1.1 s.2.1.2.1 s.2.1.2.2.1 s.2.1.2.2.2.1 s.2.1.2.2.2.2 s.2.2.1 s.2.2.2.1 s.2.2.2.2.1 s.2.2.2.2.2.1 s.2.2.2.2.2.2), by kernel_rfl, by kernel_rfl, fun s => rfl, fun s => qu_r6 n s.1 s.2.1.1 s.2.1.2.1 s.2.1.2.2.1 s.2.1.2.2.2.1 s.2.1.2.2.2.2 s.2.2.1 s.2.2.2.1 s.2.2.2.2.1 s.2.2.2.2.2.1 s.2.2.2.2.2.2⟩
theorem qu_r8 (n : Nat) (t11 : Int) (m0 : DH) (m0_1 : DI) (m0_2 : DJ) (m0_3 : DC) (m0_4 : DD) (m1 : DH) (m1_1 : DI) (m1_2 : DJ) (m1_3 : DC) (m1_4 : DD) : roundK (real _) tab (qu_tbl n) (qu_loops n) qu_an [] qu_l8 8 [2, 3, 11] qu_h8 qu_o8 (t11, ((m0, (m0_1, (m0_2, (m0_3, m0_4)))), (m1, (m1_1, (m1_2, (m1_3, m1_4)))))) some = qu_B8 n t11 m0 m0_1 m0_2 m0_3 m0_4 m1 m1_1 m1_2 m1_3 m1_4 := by kernel_rfl
theorem qu_f8 (n : Nat) : LoopFact tab (qu_tbl n) (qu_loops n) qu_an [] n 8 qu_l8 (qu_L8 n) := ⟨[2, 3, 11], (fun s => qu_B8 n s.1 s.2.1.1 s.2.1.2.1 s.2.1.2.2.1 s.2.1.2.2.2.1 s.2.1.2.2.2.2 s.2.2.1 s.2.2.2.1 s.2.2.2.2.1 s.2.2.2.2.2.1 s.2.2.2.2.2.2), by kernel_rfl, by kernel_rfl, fun s => rfl, fun s => qu_r8 n s.1 s.2.1.1 s.2.1.2.1 s.2.1.2.2.1 s.2.1.2.2.2.1 s.2.1.2.2.2.2 s.2.2.1 s.2.2.2.1 s.2.2.2.2.1 s.2.2.2.2.2.1 s.2.2.2.2.2.2⟩
theorem qu_r10 (n : Nat) (t12 : Int) (m0 : DH) (m0_1 : DI) (m0_2 : DJ) (m0_3 : DC) (m0_4 : DD) (m1 : DH) (m1_1 : DI) (m1_2 : DJ) (m1_3 : DC) (m1_4 : DD) : roundK (real _) tab (qu_tbl n) (qu_loops n) qu_an [] qu_l10 10 [2, 3, 12] qu_h10 qu_o10 (t12, ((m0, (m0_1, (m0_2, (m0_3, m0_4)))), (m1, (m1_1, (m1_2, (m1_3, m1_4)))))) some = qu_B10 n t12 m0 m0_1 m0_2 m0_3 m0_4 m1 m1_1 m1_2 m1_3 m1_4 := by kernel_rfl
theorem qu_f10 (n : Nat) : LoopFact tab (qu_tbl n) (qu_loops n) qu_an [] n 10 qu_l10 (qu_L10 n) := ⟨[2, 3, 12], (fun s => qu_B10 n s.1 s.2.1.1 s.2.1.2.1 s.2.1.2.2.1 s.2.1.2.2.2.1 s.2.1.2.2.2.2 s.2.2.1 s.2.2.2.1 s.2.2.2.2.1 s.2.2.2.2.2.1 s.2.2.2.2.2.2), by kernel_rfl, by kernel_rfl, fun s => rfl, fun s => qu_r10 n s.1 s.2.1.1 s.2.1.2.1 s.2.1.2.2.1 s.2.1.2.2.2.1 s.2.1.2.2.2.2 s.2.2.1 s.2.2.2.1 s.2.2.2.2.1 s.2.2.2.2.2.1 s.2.2.2.2.2.2⟩
theorem qu_run (n : Nat) (t0 : DH) (t0_1 : DI) (t0_2 : DJ) (t0_3 : DC) (t0_4 : DD) (t1 : DH) (t1_1 : DI) (t1_2 : DJ) (t1_3 : DC) (t1_4 : DD) : funDS (real _) tab (qu_tbl n) (qu_loops n) qu_an Try.f25 0 qu_a qu_res ((t0, (t0_1, (t0_2, (t0_3, t0_4)))), (t1, (t1_1, (t1_2, (t1_3, t1_4))))) some = qu n t0 t0_1 t0_2 t0_3 t0_4 t1 t1_1 t1_2 t1_3 t1_4 := by kernel_rfl
def qu_E (n : Nat) : Entry := ⟨qu_a, qu_res, fun d => qu n d.1.1 d.1.2.1 d.1.2.2.1 d.1.2.2.2.1 d.1.2.2.2.2 d.2.1 d.2.2.1 d.2.2.2.1 d.2.2.2.2.1 d.2.2.2.2.2⟩
theorem qu_ok (n : Nat) : EOK Try.prog 25 (qu_E n) :=
 EOK.ofS zb zc ze (tbl := qu_tbl n) (loops := qu_loops n) (an := qu_an) (old := []) (n := n) (c := qu_c) (fn := Try.f25) (TblOK.cons (AllE.cons (qbd_ok n) AllE.nil) TblOK.nil) (by kernel_rfl) (by kernel_rfl) (by kernel_rfl) (by kernel_rfl) (fun d => by kernel_rfl) (LT.cons (by kernel_rfl) (qu_f0 n) (LT.cons (by kernel_rfl) (qu_f4 n) (LT.cons (by kernel_rfl) (qu_f2 n) (LT.cons (by kernel_rfl) (qu_f6 n) (LT.cons (by kernel_rfl) (qu_f8 n) (LT.cons (by kernel_rfl) (qu_f10 n) LT.nil)))))) (fun a => qu_run n a.1.1 a.1.2.1 a.1.2.2.1 a.1.2.2.2.1 a.1.2.2.2.2 a.2.1 a.2.2.1 a.2.2.2.1 a.2.2.2.2.1 a.2.2.2.2.2)
def law06ModuleCuts_an : Ann := { boxed := [(7, 0), (7, 2)] }
def law06ModuleCuts_c : Code := (match Try.f10.body with | some c => c | none => .skip)
def law06ModuleCuts_a : StSh := ⟨.normal, [0, 1, 2], (.cons (.agg (.cons (.sl true false yA) (.cons (.sl true true yB) (.cons (.sl true true yC) (.cons (.sl true false (.int .u64)) (.cons (.sl true false .str) .nil)))))) (.cons (.int .u16) (.cons (.int .u8) .nil))), .nil⟩
def law06ModuleCuts_res : List StSh := [⟨.ret, [0], (.cons .bool .nil), .nil⟩]
def law06ModuleCuts_tbl (n : Nat) : FuncId → List Entry := fun f => bif Nat.beq f 14 then [qbr_E n] else bif Nat.beq f 19 then [qbc_E n] else bif Nat.beq f 21 then [qbo_E n] else bif Nat.beq f 23 then [qba_E n] else bif Nat.beq f 25 then [qu_E n] else []
def law06ModuleCuts_loops (n : Nat) : Nat → Option LEntry := fun f => none
theorem zdE (n : Nat) (t0 : DH) (t0_1 : DI) (t0_2 : DJ) (t0_3 : DC) (t0_4 : DD) (t1 : Int) (t2 : Int) : funDS (real _) tab (law06ModuleCuts_tbl n) (law06ModuleCuts_loops n) law06ModuleCuts_an Try.f10 0 law06ModuleCuts_a law06ModuleCuts_res ((t0, (t0_1, (t0_2, (t0_3, t0_4)))), (t1, t2)) some = law06ModuleCuts n t0 t0_1 t0_2 t0_3 t0_4 t1 t2 := by kernel_rfl
def law06ModuleCuts_E (n : Nat) : Entry := ⟨law06ModuleCuts_a, law06ModuleCuts_res, fun d => law06ModuleCuts n d.1.1 d.1.2.1 d.1.2.2.1 d.1.2.2.2.1 d.1.2.2.2.2 d.2.1 d.2.2⟩
theorem zdX (n : Nat) : EOK Try.prog 10 (law06ModuleCuts_E n) :=
 EOK.ofS zb zc ze (tbl := law06ModuleCuts_tbl n) (loops := law06ModuleCuts_loops n) (an := law06ModuleCuts_an) (old := []) (n := n) (c := law06ModuleCuts_c) (fn := Try.f10) (TblOK.cons (AllE.cons (qbr_ok n) AllE.nil) (TblOK.cons (AllE.cons (qbc_ok n) AllE.nil) (TblOK.cons (AllE.cons (qbo_ok n) AllE.nil) (TblOK.cons (AllE.cons (qba_ok n) AllE.nil) (TblOK.cons (AllE.cons (qu_ok n) AllE.nil) TblOK.nil))))) (by kernel_rfl) (by kernel_rfl) (by kernel_rfl) (by kernel_rfl) (fun d => by kernel_rfl) LT.nil (fun a => zdE n a.1.1 a.1.2.1 a.1.2.2.1 a.1.2.2.2.1 a.1.2.2.2.2 a.2.1 a.2.2)
end
end Sx
