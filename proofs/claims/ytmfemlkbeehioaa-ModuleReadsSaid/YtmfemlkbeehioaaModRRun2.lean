import Derived.Test.YtmfemlkbeehioaaProg
import Derived.Test.YtmfemlkbeehioaaLib32
import Derived.Test.YtmfemlkbeehioaaModRFixB
import Derived.KernelRfl
open Go Go.Ab Go.Proofs
set_option linter.unusedVariables false
set_option maxRecDepth 20000
namespace Sx
noncomputable section
def qcp_h0 : List StSh := [⟨.normal, [0, 2, 4, 6, 20, 21], (.cons (.ptr 0 0 0 0) (.cons (.ptr 1 0 0 0) (.cons (.int .i64) (.cons (.ptr 2 0 0 0) (.cons (.int .i64) (.cons (.int .i64) .nil)))))), (.cons (.bcells 0 false 1 (.cons (.sl false false (.int .u8)) (.cons .bool .nil))) (.cons (.bcells 0 false 1 (.cons (.int .i64) (.cons (.int .i64) (.cons (.int .i64) .nil)))) (.cons (.bcells 0 false 1 (.cons (.int .u64) (.cons (.int .u64) .nil))) .nil)))⟩]
def qcp_o0 : List StSh := [⟨.ret, [2, 3], (.cons (.ptr 1 0 0 0) (.cons .bool .nil)), (.cons (.bcells 0 false 1 (.cons (.sl false false (.int .u8)) (.cons .bool .nil))) (.cons (.bcells 0 false 1 (.cons (.int .i64) (.cons (.int .i64) (.cons (.int .i64) .nil)))) (.cons (.bcells 0 false 1 (.cons (.int .u64) (.cons (.int .u64) .nil))) .nil)))⟩, ⟨.exit 0, [2, 4, 6], (.cons (.ptr 1 0 0 0) (.cons (.int .i64) (.cons (.ptr 2 0 0 0) .nil))), (.cons (.bcells 0 false 1 (.cons (.sl false false (.int .u8)) (.cons .bool .nil))) (.cons (.bcells 0 false 1 (.cons (.int .i64) (.cons (.int .i64) (.cons (.int .i64) .nil)))) (.cons (.bcells 0 false 1 (.cons (.int .u64) (.cons (.int .u64) .nil))) .nil)))⟩]
def qcp_L0 (n : Nat) : LEntry := ⟨qcp_h0, qcp_o0, qcp_W0 n⟩
def qcp_res : List StSh := [⟨.ret, [0], (.cons (.tup (.cons (.agg (.cons (.int .i64) (.cons (.int .i64) (.cons (.int .i64) .nil)))) (.cons .bool .nil))) .nil), (.cons (.bcells 0 false 1 (.cons (.sl false false (.int .u8)) (.cons .bool .nil))) .nil)⟩]
def qcp_tbl (n : Nat) : FuncId → List Entry := fun f => bif Nat.beq f 67 then [qaj_E n] else bif Nat.beq f 116 then [qcj_E n] else bif Nat.beq f 104 then [qbb_E n] else bif Nat.beq f 56 then [qaz_E n] else []
def qcp_loops (n : Nat) : Nat → Option LEntry := fun f => bif Nat.beq f 0 then some (qcp_L0 n) else none
theorem qcp_r0 (n : Nat) (op_4 : Int) (t20 : Int) (t21 : Int) (m0 : DC) (m0_1 : Bool) (m1 : Int) (m1_1 : Int) (m1_2 : Int) (m2 : Int) (m2_1 : Int) : roundK (real _) tab (qcp_tbl n) (qcp_loops n) qcp_an [some true] qcp_l0 0 [0, 2, 4, 6, 20, 21] qcp_h0 qcp_o0 ((op_4, (t20, t21)), ((m0, m0_1), ((m1, (m1_1, m1_2)), (m2, m2_1)))) some = qcp_B0 n op_4 t20 t21 m0 m0_1 m1 m1_1 m1_2 m2 m2_1 := by kernel_rfl
theorem qcp_f0 (n : Nat) : LoopFact tab (qcp_tbl n) (qcp_loops n) qcp_an [some true] n 0 qcp_l0 (qcp_L0 n) := ⟨[0, 2, 4, 6, 20, 21], (fun s => qcp_B0 n s.1.1 s.1.2.1 s.1.2.2 s.2.1.1 s.2.1.2 s.2.2.1.1 s.2.2.1.2.1 s.2.2.1.2.2 s.2.2.2.1 s.2.2.2.2), by kernel_rfl, by kernel_rfl, fun s => rfl, fun s => qcp_r0 n s.1.1 s.1.2.1 s.1.2.2 s.2.1.1 s.2.1.2 s.2.2.1.1 s.2.2.1.2.1 s.2.2.1.2.2 s.2.2.2.1 s.2.2.2.2⟩
theorem qcp_run (n : Nat) (m0 : DC) (m0_1 : Bool) : funDS (real _) tab (qcp_tbl n) (qcp_loops n) qcp_an Try.f118 1 qcp_a qcp_res (m0, m0_1) some = qcp n m0 m0_1 := by kernel_rfl
def qcp_E (n : Nat) : Entry := ⟨qcp_a, qcp_res, fun d => qcp n d.1 d.2⟩
theorem qcp_ok (n : Nat) : EOK Try.prog 118 (qcp_E n) :=
 EOK.ofS prog_names prog_mixed tab_ok (tbl := qcp_tbl n) (loops := qcp_loops n) (an := qcp_an) (old := [some true]) (n := n) (c := qcp_c) (fn := Try.f118) (TblOK.cons (AllE.cons (qaj_ok n) AllE.nil) (TblOK.cons (AllE.cons (qcj_ok n) AllE.nil) (TblOK.cons (AllE.cons (qbb_ok n) AllE.nil) (TblOK.cons (AllE.cons (qaz_ok n) AllE.nil) TblOK.nil)))) (by kernel_rfl) (by kernel_rfl) (by kernel_rfl) (by kernel_rfl) (fun d => by kernel_rfl) (LT.cons (by kernel_rfl) (qcp_f0 n) LT.nil) (fun a => qcp_run n a.1 a.2)
def qj_res : List StSh := [⟨.ret, [0], (.cons (.agg (.cons (.int .i64) (.cons (.int .i64) (.cons (.int .i64) .nil)))) .nil), (.cons (.bcells 0 false 1 (.cons (.ptr 1 0 0 0) (.cons (.int .i64) (.cons .bool .nil)))) (.cons (.bcells 0 false 1 (.cons (.sl false false (.int .u8)) (.cons .bool .nil))) .nil))⟩]
def qj_tbl (n : Nat) : FuncId → List Entry := fun f => bif Nat.beq f 118 then [qcp_E n] else []
def qj_loops (n : Nat) : Nat → Option LEntry := fun f => none
theorem qj_run (n : Nat) (m0 : Int) (m0_1 : Bool) (m1 : DC) (m1_1 : Bool) : funDS (real _) tab (qj_tbl n) (qj_loops n) qj_an Try.f108 2 qj_a qj_res ((m0, m0_1), (m1, m1_1)) some = qj n m0 m0_1 m1 m1_1 := by kernel_rfl
def qj_E (n : Nat) : Entry := ⟨qj_a, qj_res, fun d => qj n d.1.1 d.1.2 d.2.1 d.2.2⟩
theorem qj_ok (n : Nat) : EOK Try.prog 108 (qj_E n) :=
 EOK.ofS prog_names prog_mixed tab_ok (tbl := qj_tbl n) (loops := qj_loops n) (an := qj_an) (old := [some true, some true]) (n := n) (c := qj_c) (fn := Try.f108) (TblOK.cons (AllE.cons (qcp_ok n) AllE.nil) TblOK.nil) (by kernel_rfl) (by kernel_rfl) (by kernel_rfl) (by kernel_rfl) (fun d => by kernel_rfl) LT.nil (fun a => qj_run n a.1.1 a.1.2 a.2.1 a.2.2)
def qf_h0 : List StSh := [⟨.normal, [0, 2, 7, 10, 11], (.cons (.ptr 0 0 0 0) (.cons (.fn 108 (.cons (.ptr 0 0 0 0) .nil) .nil) (.cons (.msw 2 0) (.cons (.int .i64) (.cons (.int .i64) .nil))))), (.cons (.bcells 0 false 1 (.cons (.ptr 1 0 0 0) (.cons (.int .i64) (.cons .bool .nil)))) (.cons (.bcells 0 false 1 (.cons (.sl false false (.int .u8)) (.cons .bool .nil))) (.cons (.bts 0 false false true yE) .nil)))⟩]
def qf_o0 : List StSh := [⟨.exit 0, [7], (.cons (.msw 2 0) .nil), (.cons (.bcells 0 false 1 (.cons (.ptr 1 0 0 0) (.cons (.int .i64) (.cons .bool .nil)))) (.cons (.bcells 0 false 1 (.cons (.sl false false (.int .u8)) (.cons .bool .nil))) (.cons (.bts 0 false false true yE) .nil)))⟩]
def qf_L0 (n : Nat) : LEntry := ⟨qf_h0, qf_o0, qf_W0 n⟩
def qf_res : List StSh := [⟨.ret, [0], (.cons (.sl false true yE) .nil), (.cons (.bcells 0 false 1 (.cons (.ptr 1 0 0 0) (.cons (.int .i64) (.cons .bool .nil)))) (.cons (.bcells 0 false 1 (.cons (.sl false false (.int .u8)) (.cons .bool .nil))) .nil))⟩]
def qf_tbl (n : Nat) : FuncId → List Entry := fun f => bif Nat.beq f 71 then [ql_E n] else bif Nat.beq f 108 then [qj_E n] else []
def qf_loops (n : Nat) : Nat → Option LEntry := fun f => bif Nat.beq f 0 then some (qf_L0 n) else none
theorem qf_r0 (n : Nat) (t10 : Int) (t11 : Int) (m0 : Int) (m0_1 : Bool) (m1 : DC) (m1_1 : Bool) (m2 : DB) : roundK (real _) tab (qf_tbl n) (qf_loops n) qf_an [some true, some true] qf_l0 0 [0, 2, 7, 10, 11] qf_h0 qf_o0 ((t10, t11), ((m0, m0_1), ((m1, m1_1), m2))) some = qf_B0 n t10 t11 m0 m0_1 m1 m1_1 m2 := by kernel_rfl
theorem qf_f0 (n : Nat) : LoopFact tab (qf_tbl n) (qf_loops n) qf_an [some true, some true] n 0 qf_l0 (qf_L0 n) := ⟨[0, 2, 7, 10, 11], (fun s => qf_B0 n s.1.1 s.1.2 s.2.1.1 s.2.1.2 s.2.2.1.1 s.2.2.1.2 s.2.2.2), by kernel_rfl, by kernel_rfl, fun s => rfl, fun s => qf_r0 n s.1.1 s.1.2 s.2.1.1 s.2.1.2 s.2.2.1.1 s.2.2.1.2 s.2.2.2⟩
theorem qf_run (n : Nat) (most_1 : Int) (m0 : Int) (m0_1 : Bool) (m1 : DC) (m1_1 : Bool) : funDS (real _) tab (qf_tbl n) (qf_loops n) qf_an Try.f107 2 qf_a qf_res (most_1, ((m0, m0_1), (m1, m1_1))) some = qf n most_1 m0 m0_1 m1 m1_1 := by kernel_rfl
def qf_E (n : Nat) : Entry := ⟨qf_a, qf_res, fun d => qf n d.1 d.2.1.1 d.2.1.2 d.2.2.1 d.2.2.2⟩
theorem qf_ok (n : Nat) : EOK Try.prog 107 (qf_E n) :=
 EOK.ofS prog_names prog_mixed tab_ok (tbl := qf_tbl n) (loops := qf_loops n) (an := qf_an) (old := [some true, some true]) (n := n) (c := qf_c) (fn := Try.f107) (TblOK.cons (AllE.cons (ql_ok n) AllE.nil) (TblOK.cons (AllE.cons (qj_ok n) AllE.nil) TblOK.nil)) (by kernel_rfl) (by kernel_rfl) (by kernel_rfl) (by kernel_rfl) (fun d => by kernel_rfl) (LT.cons (by kernel_rfl) (qf_f0 n) LT.nil) (fun a => qf_run n a.1 a.2.1.1 a.2.1.2 a.2.2.1 a.2.2.2)
def qa_res : List StSh := [⟨.ret, [0], (.cons (.agg (.cons (.sl false true yD) (.cons (.int .i64) (.cons (.int .i64) (.cons (.sl false true yD) (.cons (.sl false true yE) .nil)))))) .nil), (.cons (.bcells 0 false 1 (.cons (.ptr 1 0 0 0) (.cons (.int .i64) (.cons .bool .nil)))) (.cons (.bcells 0 false 1 (.cons (.sl false false (.int .u8)) (.cons .bool .nil))) .nil))⟩]
def qa_tbl (n : Nat) : FuncId → List Entry := fun f => bif Nat.beq f 59 then [qd_E n] else bif Nat.beq f 60 then [qz_E n] else bif Nat.beq f 107 then [qf_E n] else []
def qa_loops (n : Nat) : Nat → Option LEntry := fun f => none
theorem qa_run (n : Nat) (m0 : Int) (m0_1 : Bool) (m1 : DC) (m1_1 : Bool) : funDS (real _) tab (qa_tbl n) (qa_loops n) qa_an Try.f62 2 qa_a qa_res ((m0, m0_1), (m1, m1_1)) some = qa n m0 m0_1 m1 m1_1 := by kernel_rfl
def qa_E (n : Nat) : Entry := ⟨qa_a, qa_res, fun d => qa n d.1.1 d.1.2 d.2.1 d.2.2⟩
theorem qa_ok (n : Nat) : EOK Try.prog 62 (qa_E n) :=
 EOK.ofS prog_names prog_mixed tab_ok (tbl := qa_tbl n) (loops := qa_loops n) (an := qa_an) (old := [some true, some true]) (n := n) (c := qa_c) (fn := Try.f62) (TblOK.cons (AllE.cons (qd_ok n) AllE.nil) (TblOK.cons (AllE.cons (qz_ok n) AllE.nil) (TblOK.cons (AllE.cons (qf_ok n) AllE.nil) TblOK.nil))) (by kernel_rfl) (by kernel_rfl) (by kernel_rfl) (by kernel_rfl) (fun d => by kernel_rfl) LT.nil (fun a => qa_run n a.1.1 a.1.2 a.2.1 a.2.2)
def qn_h0 : List StSh := [⟨.normal, [0, 2, 7, 10, 11], (.cons (.ptr 0 0 0 0) (.cons (.fn 62 (.cons (.ptr 0 0 0 0) .nil) .nil) (.cons (.msw 2 0) (.cons (.int .i64) (.cons (.int .i64) .nil))))), (.cons (.bcells 0 false 1 (.cons (.ptr 1 0 0 0) (.cons (.int .i64) (.cons .bool .nil)))) (.cons (.bcells 0 false 1 (.cons (.sl false false (.int .u8)) (.cons .bool .nil))) (.cons (.bts 0 false false true yB) .nil)))⟩]
def qn_o0 : List StSh := [⟨.exit 0, [7], (.cons (.msw 2 0) .nil), (.cons (.bcells 0 false 1 (.cons (.ptr 1 0 0 0) (.cons (.int .i64) (.cons .bool .nil)))) (.cons (.bcells 0 false 1 (.cons (.sl false false (.int .u8)) (.cons .bool .nil))) (.cons (.bts 0 false false true yB) .nil)))⟩]
def qn_L0 (n : Nat) : LEntry := ⟨qn_h0, qn_o0, qn_W0 n⟩
def qn_res : List StSh := [⟨.ret, [0], (.cons (.sl false true yB) .nil), (.cons (.bcells 0 false 1 (.cons (.ptr 1 0 0 0) (.cons (.int .i64) (.cons .bool .nil)))) (.cons (.bcells 0 false 1 (.cons (.sl false false (.int .u8)) (.cons .bool .nil))) .nil))⟩]
def qn_tbl (n : Nat) : FuncId → List Entry := fun f => bif Nat.beq f 71 then [ql_E n] else bif Nat.beq f 62 then [qa_E n] else []
def qn_loops (n : Nat) : Nat → Option LEntry := fun f => bif Nat.beq f 0 then some (qn_L0 n) else none
theorem qn_r0 (n : Nat) (t10 : Int) (t11 : Int) (m0 : Int) (m0_1 : Bool) (m1 : DC) (m1_1 : Bool) (m2 : DH) : roundK (real _) tab (qn_tbl n) (qn_loops n) qn_an [some true, some true] qn_l0 0 [0, 2, 7, 10, 11] qn_h0 qn_o0 ((t10, t11), ((m0, m0_1), ((m1, m1_1), m2))) some = qn_B0 n t10 t11 m0 m0_1 m1 m1_1 m2 := by kernel_rfl
theorem qn_f0 (n : Nat) : LoopFact tab (qn_tbl n) (qn_loops n) qn_an [some true, some true] n 0 qn_l0 (qn_L0 n) := ⟨[0, 2, 7, 10, 11], (fun s => qn_B0 n s.1.1 s.1.2 s.2.1.1 s.2.1.2 s.2.2.1.1 s.2.2.1.2 s.2.2.2), by kernel_rfl, by kernel_rfl, fun s => rfl, fun s => qn_r0 n s.1.1 s.1.2 s.2.1.1 s.2.1.2 s.2.2.1.1 s.2.2.1.2 s.2.2.2⟩
theorem qn_run (n : Nat) (most_1 : Int) (m0 : Int) (m0_1 : Bool) (m1 : DC) (m1_1 : Bool) : funDS (real _) tab (qn_tbl n) (qn_loops n) qn_an Try.f61 2 qn_a qn_res (most_1, ((m0, m0_1), (m1, m1_1))) some = qn n most_1 m0 m0_1 m1 m1_1 := by kernel_rfl
def qn_E (n : Nat) : Entry := ⟨qn_a, qn_res, fun d => qn n d.1 d.2.1.1 d.2.1.2 d.2.2.1 d.2.2.2⟩
theorem qn_ok (n : Nat) : EOK Try.prog 61 (qn_E n) :=
 EOK.ofS prog_names prog_mixed tab_ok (tbl := qn_tbl n) (loops := qn_loops n) (an := qn_an) (old := [some true, some true]) (n := n) (c := qn_c) (fn := Try.f61) (TblOK.cons (AllE.cons (ql_ok n) AllE.nil) (TblOK.cons (AllE.cons (qa_ok n) AllE.nil) TblOK.nil)) (by kernel_rfl) (by kernel_rfl) (by kernel_rfl) (by kernel_rfl) (fun d => by kernel_rfl) (LT.cons (by kernel_rfl) (qn_f0 n) LT.nil) (fun a => qn_run n a.1 a.2.1.1 a.2.1.2 a.2.2.1 a.2.2.2)
def qw_an : Ann := {}
def qw_c : Code := (match Try.f54.body with | some c => c | none => .skip)
def qw_a : StSh := ⟨.normal, [0, 1, 2], (.cons (.int .i64) (.cons (.ptr 0 0 0 0) (.cons (.ptr 1 0 0 0) .nil))), (.cons (.bcells 0 false 1 (.cons (.sl false false yF) .nil)) (.cons (.bcells 0 false 1 (.cons (.sl false false yA) (.cons (.sl false true yB) (.cons .nilS (.cons .nilS (.cons .nilS .nil)))))) .nil))⟩
def qw_res : List StSh := [⟨.ret, [0], (.cons (.ptr 2 0 0 0) .nil), (.cons (.bcells 0 false 1 (.cons (.sl false false yF) .nil)) (.cons (.bcells 0 false 1 (.cons (.sl false false yA) (.cons (.sl false true yB) (.cons .nilS (.cons .nilS (.cons .nilS .nil)))))) (.cons (.bcells 0 false 1 (.cons (.ptr 3 0 0 0) (.cons (.int .i64) (.cons .bool .nil)))) (.cons (.bcells 0 false 1 (.cons (.sl false false (.int .u8)) (.cons .bool .nil))) .nil))))⟩]
def qw_tbl (n : Nat) : FuncId → List Entry := fun f => bif Nat.beq f 55 then [qbd_E n] else []
def qw_loops (n : Nat) : Nat → Option LEntry := fun f => none
theorem qw_run (n : Nat) (k_0 : Int) (m0 : DJ) (m1 : DG) (m1_1 : DH) : funDS (real _) tab (qw_tbl n) (qw_loops n) qw_an Try.f54 2 qw_a qw_res (k_0, (m0, (m1, m1_1))) some = qw n k_0 m0 m1 m1_1 := by kernel_rfl
def qw_E (n : Nat) : Entry := ⟨qw_a, qw_res, fun d => qw n d.1 d.2.1 d.2.2.1 d.2.2.2⟩
theorem qw_ok (n : Nat) : EOK Try.prog 54 (qw_E n) :=
 EOK.ofS prog_names prog_mixed tab_ok (tbl := qw_tbl n) (loops := qw_loops n) (an := qw_an) (old := [some true, some true]) (n := n) (c := qw_c) (fn := Try.f54) (TblOK.cons (AllE.cons (qbd_ok n) AllE.nil) TblOK.nil) (by kernel_rfl) (by kernel_rfl) (by kernel_rfl) (by kernel_rfl) (fun d => by kernel_rfl) LT.nil (fun a => qw_run n a.1 a.2.1 a.2.2.1 a.2.2.2)
def qb_an : Ann := { live := [(0, [0, 2, 7, 10, 11])], boxed := [(1, 0), (5, 4)] }
def qb_c : Code := (match Try.f63.body with | some c => c | none => .skip)
def qb_l0 : Code := (match assoc 0 (loopsIn qb_c 0) with | some c => c | none => .skip)
def qb_a : StSh := ⟨.normal, [0, 1, 2], (.cons (.ptr 0 0 0 0) (.cons (.int .i64) (.cons (.fn 64 (.cons (.ptr 0 0 0 0) .nil) .nil) .nil))), (.cons (.bcells 0 false 1 (.cons (.ptr 1 0 0 0) (.cons (.int .i64) (.cons .bool .nil)))) (.cons (.bcells 0 false 1 (.cons (.sl false false (.int .u8)) (.cons .bool .nil))) .nil))⟩
def qq_an : Ann := {}
def qq_c : Code := (match Try.f64.body with | some c => c | none => .skip)
def qq_a : StSh := ⟨.normal, [0], (.cons (.ptr 0 0 0 0) .nil), (.cons (.bcells 0 false 1 (.cons (.ptr 1 0 0 0) (.cons (.int .i64) (.cons .bool .nil)))) (.cons (.bcells 0 false 1 (.cons (.sl false false (.int .u8)) (.cons .bool .nil))) .nil))⟩
def qq_res : List StSh := [⟨.ret, [0], (.cons (.agg (.cons (.sl false true yD) (.cons (.int .i64) (.cons (.int .i64) .nil)))) .nil), (.cons (.bcells 0 false 1 (.cons (.ptr 1 0 0 0) (.cons (.int .i64) (.cons .bool .nil)))) (.cons (.bcells 0 false 1 (.cons (.sl false false (.int .u8)) (.cons .bool .nil))) .nil))⟩]
def qq_tbl (n : Nat) : FuncId → List Entry := fun f => bif Nat.beq f 59 then [qd_E n] else bif Nat.beq f 60 then [qz_E n] else []
def qq_loops (n : Nat) : Nat → Option LEntry := fun f => none
theorem qq_run (n : Nat) (m0 : Int) (m0_1 : Bool) (m1 : DC) (m1_1 : Bool) : funDS (real _) tab (qq_tbl n) (qq_loops n) qq_an Try.f64 2 qq_a qq_res ((m0, m0_1), (m1, m1_1)) some = qq n m0 m0_1 m1 m1_1 := by kernel_rfl
def qq_E (n : Nat) : Entry := ⟨qq_a, qq_res, fun d => qq n d.1.1 d.1.2 d.2.1 d.2.2⟩
theorem qq_ok (n : Nat) : EOK Try.prog 64 (qq_E n) :=
 EOK.ofS prog_names prog_mixed tab_ok (tbl := qq_tbl n) (loops := qq_loops n) (an := qq_an) (old := [some true, some true]) (n := n) (c := qq_c) (fn := Try.f64) (TblOK.cons (AllE.cons (qd_ok n) AllE.nil) (TblOK.cons (AllE.cons (qz_ok n) AllE.nil) TblOK.nil)) (by kernel_rfl) (by kernel_rfl) (by kernel_rfl) (by kernel_rfl) (fun d => by kernel_rfl) LT.nil (fun a => qq_run n a.1.1 a.1.2 a.2.1 a.2.2)
def qb_h0 : List StSh := [⟨.normal, [0, 2, 7, 10, 11], (.cons (.ptr 0 0 0 0) (.cons (.fn 64 (.cons (.ptr 0 0 0 0) .nil) .nil) (.cons (.msw 2 0) (.cons (.int .i64) (.cons (.int .i64) .nil))))), (.cons (.bcells 0 false 1 (.cons (.ptr 1 0 0 0) (.cons (.int .i64) (.cons .bool .nil)))) (.cons (.bcells 0 false 1 (.cons (.sl false false (.int .u8)) (.cons .bool .nil))) (.cons (.bts 0 false false true yC) .nil)))⟩]
def qb_o0 : List StSh := [⟨.exit 0, [7], (.cons (.msw 2 0) .nil), (.cons (.bcells 0 false 1 (.cons (.ptr 1 0 0 0) (.cons (.int .i64) (.cons .bool .nil)))) (.cons (.bcells 0 false 1 (.cons (.sl false false (.int .u8)) (.cons .bool .nil))) (.cons (.bts 0 false false true yC) .nil)))⟩]
def qb_L0 (n : Nat) : LEntry := ⟨qb_h0, qb_o0, qb_W0 n⟩
def qb_res : List StSh := [⟨.ret, [0], (.cons (.sl false true yC) .nil), (.cons (.bcells 0 false 1 (.cons (.ptr 1 0 0 0) (.cons (.int .i64) (.cons .bool .nil)))) (.cons (.bcells 0 false 1 (.cons (.sl false false (.int .u8)) (.cons .bool .nil))) .nil))⟩]
def qb_tbl (n : Nat) : FuncId → List Entry := fun f => bif Nat.beq f 71 then [ql_E n] else bif Nat.beq f 64 then [qq_E n] else []
def qb_loops (n : Nat) : Nat → Option LEntry := fun f => bif Nat.beq f 0 then some (qb_L0 n) else none
theorem qb_r0 (n : Nat) (t10 : Int) (t11 : Int) (m0 : Int) (m0_1 : Bool) (m1 : DC) (m1_1 : Bool) (m2 : DI) : roundK (real _) tab (qb_tbl n) (qb_loops n) qb_an [some true, some true] qb_l0 0 [0, 2, 7, 10, 11] qb_h0 qb_o0 ((t10, t11), ((m0, m0_1), ((m1, m1_1), m2))) some = qb_B0 n t10 t11 m0 m0_1 m1 m1_1 m2 := by kernel_rfl
theorem qb_f0 (n : Nat) : LoopFact tab (qb_tbl n) (qb_loops n) qb_an [some true, some true] n 0 qb_l0 (qb_L0 n) := ⟨[0, 2, 7, 10, 11], (fun s => qb_B0 n s.1.1 s.1.2 s.2.1.1 s.2.1.2 s.2.2.1.1 s.2.2.1.2 s.2.2.2), by kernel_rfl, by kernel_rfl, fun s => rfl, fun s => qb_r0 n s.1.1 s.1.2 s.2.1.1 s.2.1.2 s.2.2.1.1 s.2.2.1.2 s.2.2.2⟩
theorem qb_run (n : Nat) (most_1 : Int) (m0 : Int) (m0_1 : Bool) (m1 : DC) (m1_1 : Bool) : funDS (real _) tab (qb_tbl n) (qb_loops n) qb_an Try.f63 2 qb_a qb_res (most_1, ((m0, m0_1), (m1, m1_1))) some = qb n most_1 m0 m0_1 m1 m1_1 := by kernel_rfl
def qb_E (n : Nat) : Entry := ⟨qb_a, qb_res, fun d => qb n d.1 d.2.1.1 d.2.1.2 d.2.2.1 d.2.2.2⟩
theorem qb_ok (n : Nat) : EOK Try.prog 63 (qb_E n) :=
 EOK.ofS prog_names prog_mixed tab_ok (tbl := qb_tbl n) (loops := qb_loops n) (an := qb_an) (old := [some true, some true]) (n := n) (c := qb_c) (fn := Try.f63) (TblOK.cons (AllE.cons (ql_ok n) AllE.nil) (TblOK.cons (AllE.cons (qq_ok n) AllE.nil) TblOK.nil)) (by kernel_rfl) (by kernel_rfl) (by kernel_rfl) (by kernel_rfl) (fun d => by kernel_rfl) (LT.cons (by kernel_rfl) (qb_f0 n) LT.nil) (fun a => qb_run n a.1 a.2.1.1 a.2.1.2 a.2.2.1 a.2.2.2)
def qag_an : Ann := {}
def qag_c : Code := (match Try.f54.body with | some c => c | none => .skip)
def qag_a : StSh := ⟨.normal, [0, 1, 2], (.cons (.int .i64) (.cons (.ptr 0 0 0 0) (.cons (.ptr 1 0 0 0) .nil))), (.cons (.bcells 0 false 1 (.cons (.sl false false yF) .nil)) (.cons (.bcells 0 false 1 (.cons (.sl false false yA) (.cons (.sl false true yB) (.cons (.sl false true yC) (.cons .nilS (.cons .nilS .nil)))))) .nil))⟩
def qag_res : List StSh := [⟨.ret, [0], (.cons (.ptr 2 0 0 0) .nil), (.cons (.bcells 0 false 1 (.cons (.sl false false yF) .nil)) (.cons (.bcells 0 false 1 (.cons (.sl false false yA) (.cons (.sl false true yB) (.cons (.sl false true yC) (.cons .nilS (.cons .nilS .nil)))))) (.cons (.bcells 0 false 1 (.cons (.ptr 3 0 0 0) (.cons (.int .i64) (.cons .bool .nil)))) (.cons (.bcells 0 false 1 (.cons (.sl false false (.int .u8)) (.cons .bool .nil))) .nil))))⟩]
def qag_tbl (n : Nat) : FuncId → List Entry := fun f => bif Nat.beq f 55 then [qbd_E n] else []
def qag_loops (n : Nat) : Nat → Option LEntry := fun f => none
theorem qag_run (n : Nat) (k_0 : Int) (m0 : DJ) (m1 : DG) (m1_1 : DH) (m1_2 : DI) : funDS (real _) tab (qag_tbl n) (qag_loops n) qag_an Try.f54 2 qag_a qag_res (k_0, (m0, (m1, (m1_1, m1_2)))) some = qag n k_0 m0 m1 m1_1 m1_2 := by kernel_rfl
def qag_E (n : Nat) : Entry := ⟨qag_a, qag_res, fun d => qag n d.1 d.2.1 d.2.2.1 d.2.2.2.1 d.2.2.2.2⟩
theorem qag_ok (n : Nat) : EOK Try.prog 54 (qag_E n) :=
 EOK.ofS prog_names prog_mixed tab_ok (tbl := qag_tbl n) (loops := qag_loops n) (an := qag_an) (old := [some true, some true]) (n := n) (c := qag_c) (fn := Try.f54) (TblOK.cons (AllE.cons (qbd_ok n) AllE.nil) TblOK.nil) (by kernel_rfl) (by kernel_rfl) (by kernel_rfl) (by kernel_rfl) (fun d => by kernel_rfl) LT.nil (fun a => qag_run n a.1 a.2.1 a.2.2.1 a.2.2.2.1 a.2.2.2.2)
def qr_an : Ann := { live := [(0, [0, 2, 7, 10, 11])], boxed := [(1, 0), (5, 4)] }
def qr_c : Code := (match Try.f65.body with | some c => c | none => .skip)
def qr_l0 : Code := (match assoc 0 (loopsIn qr_c 0) with | some c => c | none => .skip)
def qr_a : StSh := ⟨.normal, [0, 1, 2], (.cons (.ptr 0 0 0 0) (.cons (.int .i64) (.cons (.fn 66 .nil (.cons (.ptr 1 0 0 0) .nil)) .nil))), (.cons (.bcells 0 false 1 (.cons (.ptr 2 0 0 0) (.cons (.int .i64) (.cons .bool .nil)))) (.cons (.bcells 0 false 1 (.cons (.ptr 0 0 0 0) .nil)) (.cons (.bcells 0 false 1 (.cons (.sl false false (.int .u8)) (.cons .bool .nil))) .nil)))⟩
def qal_an : Ann := {}
def qal_c : Code := (match Try.f66.body with | some c => c | none => .skip)
def qal_a : StSh := ⟨.normal, [0], (.cons (.ptr 0 0 0 0) .nil), (.cons (.bcells 0 false 1 (.cons (.ptr 1 0 0 0) .nil)) (.cons (.bcells 0 false 1 (.cons (.ptr 2 0 0 0) (.cons (.int .i64) (.cons .bool .nil)))) (.cons (.bcells 0 false 1 (.cons (.sl false false (.int .u8)) (.cons .bool .nil))) .nil)))⟩
def qal_res : List StSh := [⟨.ret, [0], (.cons (.int .u64) .nil), (.cons (.bcells 0 false 1 (.cons (.ptr 1 0 0 0) .nil)) (.cons (.bcells 0 false 1 (.cons (.ptr 2 0 0 0) (.cons (.int .i64) (.cons .bool .nil)))) (.cons (.bcells 0 false 1 (.cons (.sl false false (.int .u8)) (.cons .bool .nil))) .nil)))⟩]
def qal_tbl (n : Nat) : FuncId → List Entry := fun f => bif Nat.beq f 67 then [qaj_E n] else []
def qal_loops (n : Nat) : Nat → Option LEntry := fun f => none
theorem qal_run (n : Nat) (m1 : Int) (m1_1 : Bool) (m2 : DC) (m2_1 : Bool) : funDS (real _) tab (qal_tbl n) (qal_loops n) qal_an Try.f66 3 qal_a qal_res ((m1, m1_1), (m2, m2_1)) some = qal n m1 m1_1 m2 m2_1 := by kernel_rfl
def qal_E (n : Nat) : Entry := ⟨qal_a, qal_res, fun d => qal n d.1.1 d.1.2 d.2.1 d.2.2⟩
theorem qal_ok (n : Nat) : EOK Try.prog 66 (qal_E n) :=
 EOK.ofS prog_names prog_mixed tab_ok (tbl := qal_tbl n) (loops := qal_loops n) (an := qal_an) (old := [some true, some true, some true]) (n := n) (c := qal_c) (fn := Try.f66) (TblOK.cons (AllE.cons (qaj_ok n) AllE.nil) TblOK.nil) (by kernel_rfl) (by kernel_rfl) (by kernel_rfl) (by kernel_rfl) (fun d => by kernel_rfl) LT.nil (fun a => qal_run n a.1.1 a.1.2 a.2.1 a.2.2)
def qr_h0 : List StSh := [⟨.normal, [0, 2, 7, 10, 11], (.cons (.ptr 0 0 0 0) (.cons (.fn 66 .nil (.cons (.ptr 1 0 0 0) .nil)) (.cons (.msw 3 0) (.cons (.int .i64) (.cons (.int .i64) .nil))))), (.cons (.bcells 0 false 1 (.cons (.ptr 2 0 0 0) (.cons (.int .i64) (.cons .bool .nil)))) (.cons (.bcells 0 false 1 (.cons (.ptr 0 0 0 0) .nil)) (.cons (.bcells 0 false 1 (.cons (.sl false false (.int .u8)) (.cons .bool .nil))) (.cons (.bts 0 false false false (.int .u64)) .nil))))⟩]
def qr_o0 : List StSh := [⟨.exit 0, [7], (.cons (.msw 3 0) .nil), (.cons (.bcells 0 false 1 (.cons (.ptr 2 0 0 0) (.cons (.int .i64) (.cons .bool .nil)))) (.cons (.bcells 0 false 1 (.cons (.ptr 0 0 0 0) .nil)) (.cons (.bcells 0 false 1 (.cons (.sl false false (.int .u8)) (.cons .bool .nil))) (.cons (.bts 0 false false false (.int .u64)) .nil))))⟩]
def qr_L0 (n : Nat) : LEntry := ⟨qr_h0, qr_o0, qr_W0 n⟩
def qr_res : List StSh := [⟨.ret, [0], (.cons (.sl false false (.int .u64)) .nil), (.cons (.bcells 0 false 1 (.cons (.ptr 2 0 0 0) (.cons (.int .i64) (.cons .bool .nil)))) (.cons (.bcells 0 false 1 (.cons (.ptr 0 0 0 0) .nil)) (.cons (.bcells 0 false 1 (.cons (.sl false false (.int .u8)) (.cons .bool .nil))) .nil)))⟩]
def qr_tbl (n : Nat) : FuncId → List Entry := fun f => bif Nat.beq f 71 then [ql_E n] else bif Nat.beq f 66 then [qal_E n] else []
def qr_loops (n : Nat) : Nat → Option LEntry := fun f => bif Nat.beq f 0 then some (qr_L0 n) else none
theorem qr_r0 (n : Nat) (t10 : Int) (t11 : Int) (m0 : Int) (m0_1 : Bool) (m2 : DC) (m2_1 : Bool) (m3 : DC) : roundK (real _) tab (qr_tbl n) (qr_loops n) qr_an [some true, some true, some true] qr_l0 0 [0, 2, 7, 10, 11] qr_h0 qr_o0 ((t10, t11), ((m0, m0_1), ((m2, m2_1), m3))) some = qr_B0 n t10 t11 m0 m0_1 m2 m2_1 m3 := by kernel_rfl
theorem qr_f0 (n : Nat) : LoopFact tab (qr_tbl n) (qr_loops n) qr_an [some true, some true, some true] n 0 qr_l0 (qr_L0 n) := ⟨[0, 2, 7, 10, 11], (fun s => qr_B0 n s.1.1 s.1.2 s.2.1.1 s.2.1.2 s.2.2.1.1 s.2.2.1.2 s.2.2.2), by kernel_rfl, by kernel_rfl, fun s => rfl, fun s => qr_r0 n s.1.1 s.1.2 s.2.1.1 s.2.1.2 s.2.2.1.1 s.2.2.1.2 s.2.2.2⟩
theorem qr_run (n : Nat) (most_1 : Int) (m0 : Int) (m0_1 : Bool) (m2 : DC) (m2_1 : Bool) : funDS (real _) tab (qr_tbl n) (qr_loops n) qr_an Try.f65 3 qr_a qr_res (most_1, ((m0, m0_1), (m2, m2_1))) some = qr n most_1 m0 m0_1 m2 m2_1 := by kernel_rfl
def qr_E (n : Nat) : Entry := ⟨qr_a, qr_res, fun d => qr n d.1 d.2.1.1 d.2.1.2 d.2.2.1 d.2.2.2⟩
theorem qr_ok (n : Nat) : EOK Try.prog 65 (qr_E n) :=
 EOK.ofS prog_names prog_mixed tab_ok (tbl := qr_tbl n) (loops := qr_loops n) (an := qr_an) (old := [some true, some true, some true]) (n := n) (c := qr_c) (fn := Try.f65) (TblOK.cons (AllE.cons (ql_ok n) AllE.nil) (TblOK.cons (AllE.cons (qal_ok n) AllE.nil) TblOK.nil)) (by kernel_rfl) (by kernel_rfl) (by kernel_rfl) (by kernel_rfl) (fun d => by kernel_rfl) (LT.cons (by kernel_rfl) (qr_f0 n) LT.nil) (fun a => qr_run n a.1 a.2.1.1 a.2.1.2 a.2.2.1 a.2.2.2)
def qae_an : Ann := {}
def qae_c : Code := (match Try.f54.body with | some c => c | none => .skip)
def qae_a : StSh := ⟨.normal, [0, 1, 2], (.cons (.int .i64) (.cons (.ptr 0 0 0 0) (.cons (.ptr 1 0 0 0) .nil))), (.cons (.bcells 0 false 1 (.cons (.sl false false yF) .nil)) (.cons (.bcells 0 false 1 (.cons (.sl false false yA) (.cons (.sl false true yB) (.cons (.sl false true yC) (.cons (.sl false false (.int .u64)) (.cons .nilS .nil)))))) .nil))⟩
def qae_res : List StSh := [⟨.ret, [0], (.cons (.ptr 2 0 0 0) .nil), (.cons (.bcells 0 false 1 (.cons (.sl false false yF) .nil)) (.cons (.bcells 0 false 1 (.cons (.sl false false yA) (.cons (.sl false true yB) (.cons (.sl false true yC) (.cons (.sl false false (.int .u64)) (.cons .nilS .nil)))))) (.cons (.bcells 0 false 1 (.cons (.ptr 3 0 0 0) (.cons (.int .i64) (.cons .bool .nil)))) (.cons (.bcells 0 false 1 (.cons (.sl false false (.int .u8)) (.cons .bool .nil))) .nil))))⟩]
def qae_tbl (n : Nat) : FuncId → List Entry := fun f => bif Nat.beq f 55 then [qbd_E n] else []
def qae_loops (n : Nat) : Nat → Option LEntry := fun f => none
theorem qae_run (n : Nat) (k_0 : Int) (m0 : DJ) (m1 : DG) (m1_1 : DH) (m1_2 : DI) (m1_3 : DC) : funDS (real _) tab (qae_tbl n) (qae_loops n) qae_an Try.f54 2 qae_a qae_res (k_0, (m0, (m1, (m1_1, (m1_2, m1_3))))) some = qae n k_0 m0 m1 m1_1 m1_2 m1_3 := by kernel_rfl
def qae_E (n : Nat) : Entry := ⟨qae_a, qae_res, fun d => qae n d.1 d.2.1 d.2.2.1 d.2.2.2.1 d.2.2.2.2.1 d.2.2.2.2.2⟩
theorem qae_ok (n : Nat) : EOK Try.prog 54 (qae_E n) :=
 EOK.ofS prog_names prog_mixed tab_ok (tbl := qae_tbl n) (loops := qae_loops n) (an := qae_an) (old := [some true, some true]) (n := n) (c := qae_c) (fn := Try.f54) (TblOK.cons (AllE.cons (qbd_ok n) AllE.nil) TblOK.nil) (by kernel_rfl) (by kernel_rfl) (by kernel_rfl) (by kernel_rfl) (fun d => by kernel_rfl) LT.nil (fun a => qae_run n a.1 a.2.1 a.2.2.1 a.2.2.2.1 a.2.2.2.2.1 a.2.2.2.2.2)
def qu_an : Ann := { live := [(0, [0, 2, 7, 10, 11])], boxed := [(1, 0), (5, 4)] }
def qu_c : Code := (match Try.f68.body with | some c => c | none => .skip)
def qu_l0 : Code := (match assoc 0 (loopsIn qu_c 0) with | some c => c | none => .skip)
def qu_a : StSh := ⟨.normal, [0, 1, 2], (.cons (.ptr 0 0 0 0) (.cons (.int .i64) (.cons (.fn 69 .nil (.cons (.ptr 1 0 0 0) .nil)) .nil))), (.cons (.bcells 0 false 1 (.cons (.ptr 2 0 0 0) (.cons (.int .i64) (.cons .bool .nil)))) (.cons (.bcells 0 false 1 (.cons (.ptr 0 0 0 0) .nil)) (.cons (.bcells 0 false 1 (.cons (.sl false false (.int .u8)) (.cons .bool .nil))) .nil)))⟩
def qax_an : Ann := {}
def qax_c : Code := (match Try.f69.body with | some c => c | none => .skip)
def qax_a : StSh := ⟨.normal, [0], (.cons (.ptr 0 0 0 0) .nil), (.cons (.bcells 0 false 1 (.cons (.ptr 1 0 0 0) .nil)) (.cons (.bcells 0 false 1 (.cons (.ptr 2 0 0 0) (.cons (.int .i64) (.cons .bool .nil)))) (.cons (.bcells 0 false 1 (.cons (.sl false false (.int .u8)) (.cons .bool .nil))) .nil)))⟩
def qax_res : List StSh := [⟨.ret, [0], (.cons .str .nil), (.cons (.bcells 0 false 1 (.cons (.ptr 1 0 0 0) .nil)) (.cons (.bcells 0 false 1 (.cons (.ptr 2 0 0 0) (.cons (.int .i64) (.cons .bool .nil)))) (.cons (.bcells 0 false 1 (.cons (.sl false false (.int .u8)) (.cons .bool .nil))) .nil)))⟩]
def qax_tbl (n : Nat) : FuncId → List Entry := fun f => bif Nat.beq f 71 then [ql_E n] else bif Nat.beq f 70 then [qat_E n] else []
def qax_loops (n : Nat) : Nat → Option LEntry := fun f => none
theorem qax_run (n : Nat) (m1 : Int) (m1_1 : Bool) (m2 : DC) (m2_1 : Bool) : funDS (real _) tab (qax_tbl n) (qax_loops n) qax_an Try.f69 3 qax_a qax_res ((m1, m1_1), (m2, m2_1)) some = qax n m1 m1_1 m2 m2_1 := by kernel_rfl
def qax_E (n : Nat) : Entry := ⟨qax_a, qax_res, fun d => qax n d.1.1 d.1.2 d.2.1 d.2.2⟩
theorem qax_ok (n : Nat) : EOK Try.prog 69 (qax_E n) :=
 EOK.ofS prog_names prog_mixed tab_ok (tbl := qax_tbl n) (loops := qax_loops n) (an := qax_an) (old := [some true, some true, some true]) (n := n) (c := qax_c) (fn := Try.f69) (TblOK.cons (AllE.cons (ql_ok n) AllE.nil) (TblOK.cons (AllE.cons (qat_ok n) AllE.nil) TblOK.nil)) (by kernel_rfl) (by kernel_rfl) (by kernel_rfl) (by kernel_rfl) (fun d => by kernel_rfl) LT.nil (fun a => qax_run n a.1.1 a.1.2 a.2.1 a.2.2)
def qu_h0 : List StSh := [⟨.normal, [0, 2, 7, 10, 11], (.cons (.ptr 0 0 0 0) (.cons (.fn 69 .nil (.cons (.ptr 1 0 0 0) .nil)) (.cons (.msw 3 0) (.cons (.int .i64) (.cons (.int .i64) .nil))))), (.cons (.bcells 0 false 1 (.cons (.ptr 2 0 0 0) (.cons (.int .i64) (.cons .bool .nil)))) (.cons (.bcells 0 false 1 (.cons (.ptr 0 0 0 0) .nil)) (.cons (.bcells 0 false 1 (.cons (.sl false false (.int .u8)) (.cons .bool .nil))) (.cons (.bts 0 false false false .str) .nil))))⟩]
def qu_o0 : List StSh := [⟨.exit 0, [7], (.cons (.msw 3 0) .nil), (.cons (.bcells 0 false 1 (.cons (.ptr 2 0 0 0) (.cons (.int .i64) (.cons .bool .nil)))) (.cons (.bcells 0 false 1 (.cons (.ptr 0 0 0 0) .nil)) (.cons (.bcells 0 false 1 (.cons (.sl false false (.int .u8)) (.cons .bool .nil))) (.cons (.bts 0 false false false .str) .nil))))⟩]
def qu_L0 (n : Nat) : LEntry := ⟨qu_h0, qu_o0, qu_W0 n⟩
def qu_res : List StSh := [⟨.ret, [0], (.cons (.sl false false .str) .nil), (.cons (.bcells 0 false 1 (.cons (.ptr 2 0 0 0) (.cons (.int .i64) (.cons .bool .nil)))) (.cons (.bcells 0 false 1 (.cons (.ptr 0 0 0 0) .nil)) (.cons (.bcells 0 false 1 (.cons (.sl false false (.int .u8)) (.cons .bool .nil))) .nil)))⟩]
def qu_tbl (n : Nat) : FuncId → List Entry := fun f => bif Nat.beq f 71 then [ql_E n] else bif Nat.beq f 69 then [qax_E n] else []
def qu_loops (n : Nat) : Nat → Option LEntry := fun f => bif Nat.beq f 0 then some (qu_L0 n) else none
theorem qu_r0 (n : Nat) (t10 : Int) (t11 : Int) (m0 : Int) (m0_1 : Bool) (m2 : DC) (m2_1 : Bool) (m3 : DD) : roundK (real _) tab (qu_tbl n) (qu_loops n) qu_an [some true, some true, some true] qu_l0 0 [0, 2, 7, 10, 11] qu_h0 qu_o0 ((t10, t11), ((m0, m0_1), ((m2, m2_1), m3))) some = qu_B0 n t10 t11 m0 m0_1 m2 m2_1 m3 := by kernel_rfl
theorem qu_f0 (n : Nat) : LoopFact tab (qu_tbl n) (qu_loops n) qu_an [some true, some true, some true] n 0 qu_l0 (qu_L0 n) := ⟨[0, 2, 7, 10, 11], (fun s => qu_B0 n s.1.1 s.1.2 s.2.1.1 s.2.1.2 s.2.2.1.1 s.2.2.1.2 s.2.2.2), by kernel_rfl, by kernel_rfl, fun s => rfl, fun s => qu_r0 n s.1.1 s.1.2 s.2.1.1 s.2.1.2 s.2.2.1.1 s.2.2.1.2 s.2.2.2⟩
theorem qu_run (n : Nat) (most_1 : Int) (m0 : Int) (m0_1 : Bool) (m2 : DC) (m2_1 : Bool) : funDS (real _) tab (qu_tbl n) (qu_loops n) qu_an Try.f68 3 qu_a qu_res (most_1, ((m0, m0_1), (m2, m2_1))) some = qu n most_1 m0 m0_1 m2 m2_1 := by kernel_rfl
def qu_E (n : Nat) : Entry := ⟨qu_a, qu_res, fun d => qu n d.1 d.2.1.1 d.2.1.2 d.2.2.1 d.2.2.2⟩
theorem qu_ok (n : Nat) : EOK Try.prog 68 (qu_E n) :=
 EOK.ofS prog_names prog_mixed tab_ok (tbl := qu_tbl n) (loops := qu_loops n) (an := qu_an) (old := [some true, some true, some true]) (n := n) (c := qu_c) (fn := Try.f68) (TblOK.cons (AllE.cons (ql_ok n) AllE.nil) (TblOK.cons (AllE.cons (qax_ok n) AllE.nil) TblOK.nil)) (by kernel_rfl) (by kernel_rfl) (by kernel_rfl) (by kernel_rfl) (fun d => by kernel_rfl) (LT.cons (by kernel_rfl) (qu_f0 n) LT.nil) (fun a => qu_run n a.1 a.2.1.1 a.2.1.2 a.2.2.1 a.2.2.2)
def qba_res : List StSh := [⟨.ret, [0], (.cons (.tup (.cons (.agg (.cons (.sl false false yA) (.cons (.sl false true yB) (.cons (.sl false true yC) (.cons (.sl false false (.int .u64)) (.cons (.sl false false .str) .nil)))))) (.cons (.int .i64) .nil))) .nil), .nil⟩]
def qba_tbl (n : Nat) : FuncId → List Entry := fun f => bif Nat.beq f 53 then [qcb_E n] else bif Nat.beq f 54 then [qau_E n, qx_E n, qw_E n, qag_E n, qae_E n] else bif Nat.beq f 55 then [qbd_E n] else bif Nat.beq f 56 then [qaz_E n] else bif Nat.beq f 57 then [qk_E n] else bif Nat.beq f 61 then [qn_E n] else bif Nat.beq f 63 then [qb_E n] else bif Nat.beq f 65 then [qr_E n] else bif Nat.beq f 68 then [qu_E n] else bif Nat.beq f 20 then [qbf_E n] else []
def qba_loops (n : Nat) : Nat → Option LEntry := fun f => none
theorem qba_run (n : Nat) (t0 : DC) : funDS (real _) tab (qba_tbl n) (qba_loops n) qba_an Try.f23 0 qba_a qba_res t0 some = qba n t0 := by kernel_rfl
def qba_E (n : Nat) : Entry := ⟨qba_a, qba_res, fun d => qba n d⟩
theorem qba_ok (n : Nat) : EOK Try.prog 23 (qba_E n) :=
 EOK.ofS prog_names prog_mixed tab_ok (tbl := qba_tbl n) (loops := qba_loops n) (an := qba_an) (old := []) (n := n) (c := qba_c) (fn := Try.f23) (TblOK.cons (AllE.cons (qcb_ok n) AllE.nil) (TblOK.cons (AllE.cons (qau_ok n) (AllE.cons (qx_ok n) (AllE.cons (qw_ok n) (AllE.cons (qag_ok n) (AllE.cons (qae_ok n) AllE.nil))))) (TblOK.cons (AllE.cons (qbd_ok n) AllE.nil) (TblOK.cons (AllE.cons (qaz_ok n) AllE.nil) (TblOK.cons (AllE.cons (qk_ok n) AllE.nil) (TblOK.cons (AllE.cons (qn_ok n) AllE.nil) (TblOK.cons (AllE.cons (qb_ok n) AllE.nil) (TblOK.cons (AllE.cons (qr_ok n) AllE.nil) (TblOK.cons (AllE.cons (qu_ok n) AllE.nil) (TblOK.cons (AllE.cons (qbf_ok n) AllE.nil) TblOK.nil)))))))))) (by kernel_rfl) (by kernel_rfl) (by kernel_rfl) (by kernel_rfl) (fun d => by kernel_rfl) LT.nil (fun a => qba_run n a)
def qbu_an : Ann := {}
def qbu_c : Code := (match Try.f27.body with | some c => c | none => .skip)
def qbu_a : StSh := ⟨.normal, [0, 1], (.cons (.agg (.cons (.sl true false yA) (.cons (.sl true true yB) (.cons (.sl true true yC) (.cons (.sl true false (.int .u64)) (.cons (.sl true false .str) .nil)))))) (.cons (.agg (.cons (.sl true false yA) (.cons (.sl true true yB) (.cons (.sl true true yC) (.cons (.sl true false (.int .u64)) (.cons (.sl true false .str) .nil)))))) .nil)), .nil⟩
def qap_an : Ann := { live := [(0, [1, 2, 15, 16, 17])] }
def qap_c : Code := (match Try.f73.body with | some c => c | none => .skip)
def qap_l0 : Code := (match assoc 0 (loopsIn qap_c 0) with | some c => c | none => .skip)
def qap_a : StSh := ⟨.normal, [0, 1, 2], (.cons (.sl true false yA) (.cons (.sl true false yA) (.cons (.fn 74 .nil .nil) .nil))), .nil⟩
def qby_an : Ann := { live := [(0, [0, 1, 12, 13])] }
def qby_c : Code := (match Try.f74.body with | some c => c | none => .skip)
def qby_l0 : Code := (match assoc 0 (loopsIn qby_c 0) with | some c => c | none => .skip)
def qby_a : StSh := ⟨.normal, [0, 1], (.cons (.sl true true yD) (.cons (.sl true true yD) .nil)), .nil⟩
def qby_h0 : List StSh := [⟨.normal, [0, 1, 12, 13], (.cons (.sl true true yD) (.cons (.sl true true yD) (.cons (.int .i64) (.cons (.int .i64) .nil)))), .nil⟩]
def qby_o0 : List StSh := [⟨.ret, [4], (.cons .bool .nil), .nil⟩, ⟨.exit 0, [], .nil, .nil⟩]
def qby_L0 (n : Nat) : LEntry := ⟨qby_h0, qby_o0, qby_W0 n⟩
def qby_res : List StSh := [⟨.ret, [0], (.cons .bool .nil), .nil⟩]
def qby_tbl (n : Nat) : FuncId → List Entry := fun f => []
def qby_loops (n : Nat) : Nat → Option LEntry := fun f => bif Nat.beq f 0 then some (qby_L0 n) else none
theorem qby_r0 (n : Nat) (s1_0 : DA) (s2_1 : DA) (t12 : Int) (t13 : Int) : roundK (real _) tab (qby_tbl n) (qby_loops n) qby_an [] qby_l0 0 [0, 1, 12, 13] qby_h0 qby_o0 (s1_0, (s2_1, (t12, t13))) some = qby_B0 n s1_0 s2_1 t12 t13 := by kernel_rfl
theorem qby_f0 (n : Nat) : LoopFact tab (qby_tbl n) (qby_loops n) qby_an [] n 0 qby_l0 (qby_L0 n) := ⟨[0, 1, 12, 13], (fun s => qby_B0 n s.1 s.2.1 s.2.2.1 s.2.2.2), by kernel_rfl, by kernel_rfl, fun s => rfl, fun s => qby_r0 n s.1 s.2.1 s.2.2.1 s.2.2.2⟩
theorem qby_run (n : Nat) (s1_0 : DA) (s2_1 : DA) : funDS (real _) tab (qby_tbl n) (qby_loops n) qby_an Try.f74 0 qby_a qby_res (s1_0, s2_1) some = qby n s1_0 s2_1 := by kernel_rfl
def qby_E (n : Nat) : Entry := ⟨qby_a, qby_res, fun d => qby n d.1 d.2⟩
theorem qby_ok (n : Nat) : EOK Try.prog 74 (qby_E n) :=
 EOK.ofS prog_names prog_mixed tab_ok (tbl := qby_tbl n) (loops := qby_loops n) (an := qby_an) (old := []) (n := n) (c := qby_c) (fn := Try.f74) TblOK.nil (by kernel_rfl) (by kernel_rfl) (by kernel_rfl) (by kernel_rfl) (fun d => by kernel_rfl) (LT.cons (by kernel_rfl) (qby_f0 n) LT.nil) (fun a => qby_run n a.1 a.2)
def qap_h0 : List StSh := [⟨.normal, [1, 2, 15, 16, 17], (.cons (.sl true false yA) (.cons (.fn 74 .nil .nil) (.cons (.sl true false yA) (.cons (.int .i64) (.cons (.int .i64) .nil))))), .nil⟩]
def qap_o0 : List StSh := [⟨.ret, [6], (.cons .bool .nil), .nil⟩, ⟨.exit 0, [], .nil, .nil⟩]
def qap_L0 (n : Nat) : LEntry := ⟨qap_h0, qap_o0, qap_W0 n⟩
def qap_res : List StSh := [⟨.ret, [0], (.cons .bool .nil), .nil⟩]
def qap_tbl (n : Nat) : FuncId → List Entry := fun f => bif Nat.beq f 74 then [qby_E n] else []
def qap_loops (n : Nat) : Nat → Option LEntry := fun f => bif Nat.beq f 0 then some (qap_L0 n) else none
theorem qap_r0 (n : Nat) (s2_1 : DG) (t15 : DG) (t16 : Int) (t17 : Int) : roundK (real _) tab (qap_tbl n) (qap_loops n) qap_an [] qap_l0 0 [1, 2, 15, 16, 17] qap_h0 qap_o0 (s2_1, (t15, (t16, t17))) some = qap_B0 n s2_1 t15 t16 t17 := by kernel_rfl
theorem qap_f0 (n : Nat) : LoopFact tab (qap_tbl n) (qap_loops n) qap_an [] n 0 qap_l0 (qap_L0 n) := ⟨[1, 2, 15, 16, 17], (fun s => qap_B0 n s.1 s.2.1 s.2.2.1 s.2.2.2), by kernel_rfl, by kernel_rfl, fun s => rfl, fun s => qap_r0 n s.1 s.2.1 s.2.2.1 s.2.2.2⟩
theorem qap_run (n : Nat) (s1_0 : DG) (s2_1 : DG) : funDS (real _) tab (qap_tbl n) (qap_loops n) qap_an Try.f73 0 qap_a qap_res (s1_0, s2_1) some = qap n s1_0 s2_1 := by kernel_rfl
def qap_E (n : Nat) : Entry := ⟨qap_a, qap_res, fun d => qap n d.1 d.2⟩
theorem qap_ok (n : Nat) : EOK Try.prog 73 (qap_E n) :=
 EOK.ofS prog_names prog_mixed tab_ok (tbl := qap_tbl n) (loops := qap_loops n) (an := qap_an) (old := []) (n := n) (c := qap_c) (fn := Try.f73) (TblOK.cons (AllE.cons (qby_ok n) AllE.nil) TblOK.nil) (by kernel_rfl) (by kernel_rfl) (by kernel_rfl) (by kernel_rfl) (fun d => by kernel_rfl) (LT.cons (by kernel_rfl) (qap_f0 n) LT.nil) (fun a => qap_run n a.1 a.2)
def qav_an : Ann := { live := [(0, [1, 2, 15, 16, 17])] }
def qav_c : Code := (match Try.f75.body with | some c => c | none => .skip)
def qav_l0 : Code := (match assoc 0 (loopsIn qav_c 0) with | some c => c | none => .skip)
def qav_a : StSh := ⟨.normal, [0, 1, 2], (.cons (.sl true true yB) (.cons (.sl true true yB) (.cons (.fn 76 .nil .nil) .nil))), .nil⟩
def qad_an : Ann := {}
def qad_c : Code := (match Try.f76.body with | some c => c | none => .skip)
def qad_a : StSh := ⟨.normal, [0, 1], (.cons (.agg (.cons (.sl true true yD) (.cons (.int .i64) (.cons (.int .i64) (.cons (.sl true true yD) (.cons (.sl true true yE) .nil)))))) (.cons (.agg (.cons (.sl true true yD) (.cons (.int .i64) (.cons (.int .i64) (.cons (.sl true true yD) (.cons (.sl true true yE) .nil)))))) .nil)), .nil⟩
def qbw_an : Ann := { live := [(0, [0, 1, 12, 13])] }
def qbw_c : Code := (match Try.f110.body with | some c => c | none => .skip)
def qbw_l0 : Code := (match assoc 0 (loopsIn qbw_c 0) with | some c => c | none => .skip)
def qbw_a : StSh := ⟨.normal, [0, 1], (.cons (.sl true true yE) (.cons (.sl true true yE) .nil)), .nil⟩
def qbw_h0 : List StSh := [⟨.normal, [0, 1, 12, 13], (.cons (.sl true true yE) (.cons (.sl true true yE) (.cons (.int .i64) (.cons (.int .i64) .nil)))), .nil⟩]
def qbw_o0 : List StSh := [⟨.ret, [4], (.cons .bool .nil), .nil⟩, ⟨.exit 0, [], .nil, .nil⟩]
def qbw_L0 (n : Nat) : LEntry := ⟨qbw_h0, qbw_o0, qbw_W0 n⟩
def qbw_res : List StSh := [⟨.ret, [0], (.cons .bool .nil), .nil⟩]
def qbw_tbl (n : Nat) : FuncId → List Entry := fun f => []
def qbw_loops (n : Nat) : Nat → Option LEntry := fun f => bif Nat.beq f 0 then some (qbw_L0 n) else none
theorem qbw_r0 (n : Nat) (s1_0 : DB) (s2_1 : DB) (t12 : Int) (t13 : Int) : roundK (real _) tab (qbw_tbl n) (qbw_loops n) qbw_an [] qbw_l0 0 [0, 1, 12, 13] qbw_h0 qbw_o0 (s1_0, (s2_1, (t12, t13))) some = qbw_B0 n s1_0 s2_1 t12 t13 := by kernel_rfl
theorem qbw_f0 (n : Nat) : LoopFact tab (qbw_tbl n) (qbw_loops n) qbw_an [] n 0 qbw_l0 (qbw_L0 n) := ⟨[0, 1, 12, 13], (fun s => qbw_B0 n s.1 s.2.1 s.2.2.1 s.2.2.2), by kernel_rfl, by kernel_rfl, fun s => rfl, fun s => qbw_r0 n s.1 s.2.1 s.2.2.1 s.2.2.2⟩
theorem qbw_run (n : Nat) (s1_0 : DB) (s2_1 : DB) : funDS (real _) tab (qbw_tbl n) (qbw_loops n) qbw_an Try.f110 0 qbw_a qbw_res (s1_0, s2_1) some = qbw n s1_0 s2_1 := by kernel_rfl
def qbw_E (n : Nat) : Entry := ⟨qbw_a, qbw_res, fun d => qbw n d.1 d.2⟩
theorem qbw_ok (n : Nat) : EOK Try.prog 110 (qbw_E n) :=
 EOK.ofS prog_names prog_mixed tab_ok (tbl := qbw_tbl n) (loops := qbw_loops n) (an := qbw_an) (old := []) (n := n) (c := qbw_c) (fn := Try.f110) TblOK.nil (by kernel_rfl) (by kernel_rfl) (by kernel_rfl) (by kernel_rfl) (fun d => by kernel_rfl) (LT.cons (by kernel_rfl) (qbw_f0 n) LT.nil) (fun a => qbw_run n a.1 a.2)
def qad_res : List StSh := [⟨.ret, [0], (.cons .bool .nil), .nil⟩]
def qad_tbl (n : Nat) : FuncId → List Entry := fun f => bif Nat.beq f 74 then [qby_E n] else bif Nat.beq f 110 then [qbw_E n] else []
def qad_loops (n : Nat) : Nat → Option LEntry := fun f => none
theorem qad_run (n : Nat) (a_0 : DA) (a_0_1 : Int) (a_0_2 : Int) (a_0_3 : DA) (a_0_4 : DB) (b_1 : DA) (b_1_1 : Int) (b_1_2 : Int) (b_1_3 : DA) (b_1_4 : DB) : funDS (real _) tab (qad_tbl n) (qad_loops n) qad_an Try.f76 0 qad_a qad_res ((a_0, (a_0_1, (a_0_2, (a_0_3, a_0_4)))), (b_1, (b_1_1, (b_1_2, (b_1_3, b_1_4))))) some = qad n a_0 a_0_1 a_0_2 a_0_3 a_0_4 b_1 b_1_1 b_1_2 b_1_3 b_1_4 := by kernel_rfl
def qad_E (n : Nat) : Entry := ⟨qad_a, qad_res, fun d => qad n d.1.1 d.1.2.1 d.1.2.2.1 d.1.2.2.2.1 d.1.2.2.2.2 d.2.1 d.2.2.1 d.2.2.2.1 d.2.2.2.2.1 d.2.2.2.2.2⟩
theorem qad_ok (n : Nat) : EOK Try.prog 76 (qad_E n) :=
 EOK.ofS prog_names prog_mixed tab_ok (tbl := qad_tbl n) (loops := qad_loops n) (an := qad_an) (old := []) (n := n) (c := qad_c) (fn := Try.f76) (TblOK.cons (AllE.cons (qby_ok n) AllE.nil) (TblOK.cons (AllE.cons (qbw_ok n) AllE.nil) TblOK.nil)) (by kernel_rfl) (by kernel_rfl) (by kernel_rfl) (by kernel_rfl) (fun d => by kernel_rfl) LT.nil (fun a => qad_run n a.1.1 a.1.2.1 a.1.2.2.1 a.1.2.2.2.1 a.1.2.2.2.2 a.2.1 a.2.2.1 a.2.2.2.1 a.2.2.2.2.1 a.2.2.2.2.2)
def qav_h0 : List StSh := [⟨.normal, [1, 2, 15, 16, 17], (.cons (.sl true true yB) (.cons (.fn 76 .nil .nil) (.cons (.sl true true yB) (.cons (.int .i64) (.cons (.int .i64) .nil))))), .nil⟩]
def qav_o0 : List StSh := [⟨.ret, [6], (.cons .bool .nil), (.cons (.bcells 0 false 1 (.cons (.sl true true yD) (.cons (.int .i64) (.cons (.int .i64) (.cons (.sl true true yD) (.cons (.sl true true yE) .nil)))))) (.cons (.bcells 0 false 1 (.cons (.sl true true yD) (.cons (.int .i64) (.cons (.int .i64) (.cons (.sl true true yD) (.cons (.sl true true yE) .nil)))))) .nil))⟩, ⟨.exit 0, [], .nil, .nil⟩]
def qav_L0 (n : Nat) : LEntry := ⟨qav_h0, qav_o0, qav_W0 n⟩
def qav_res : List StSh := [⟨.ret, [0], (.cons .bool .nil), .nil⟩]
def qav_tbl (n : Nat) : FuncId → List Entry := fun f => bif Nat.beq f 76 then [qad_E n] else []
def qav_loops (n : Nat) : Nat → Option LEntry := fun f => bif Nat.beq f 0 then some (qav_L0 n) else none
theorem qav_r0 (n : Nat) (s2_1 : DH) (t15 : DH) (t16 : Int) (t17 : Int) : roundK (real _) tab (qav_tbl n) (qav_loops n) qav_an [] qav_l0 0 [1, 2, 15, 16, 17] qav_h0 qav_o0 (s2_1, (t15, (t16, t17))) some = qav_B0 n s2_1 t15 t16 t17 := by kernel_rfl
theorem qav_f0 (n : Nat) : LoopFact tab (qav_tbl n) (qav_loops n) qav_an [] n 0 qav_l0 (qav_L0 n) := ⟨[1, 2, 15, 16, 17], (fun s => qav_B0 n s.1 s.2.1 s.2.2.1 s.2.2.2), by kernel_rfl, by kernel_rfl, fun s => rfl, fun s => qav_r0 n s.1 s.2.1 s.2.2.1 s.2.2.2⟩
theorem qav_run (n : Nat) (s1_0 : DH) (s2_1 : DH) : funDS (real _) tab (qav_tbl n) (qav_loops n) qav_an Try.f75 0 qav_a qav_res (s1_0, s2_1) some = qav n s1_0 s2_1 := by kernel_rfl
def qav_E (n : Nat) : Entry := ⟨qav_a, qav_res, fun d => qav n d.1 d.2⟩
theorem qav_ok (n : Nat) : EOK Try.prog 75 (qav_E n) :=
 EOK.ofS prog_names prog_mixed tab_ok (tbl := qav_tbl n) (loops := qav_loops n) (an := qav_an) (old := []) (n := n) (c := qav_c) (fn := Try.f75) (TblOK.cons (AllE.cons (qad_ok n) AllE.nil) TblOK.nil) (by kernel_rfl) (by kernel_rfl) (by kernel_rfl) (by kernel_rfl) (fun d => by kernel_rfl) (LT.cons (by kernel_rfl) (qav_f0 n) LT.nil) (fun a => qav_run n a.1 a.2)
def qac_an : Ann := { live := [(0, [1, 2, 15, 16, 17])] }
def qac_c : Code := (match Try.f77.body with | some c => c | none => .skip)
def qac_l0 : Code := (match assoc 0 (loopsIn qac_c 0) with | some c => c | none => .skip)
def qac_a : StSh := ⟨.normal, [0, 1, 2], (.cons (.sl true true yC) (.cons (.sl true true yC) (.cons (.fn 78 .nil .nil) .nil))), .nil⟩
def qp_an : Ann := {}
def qp_c : Code := (match Try.f78.body with | some c => c | none => .skip)
def qp_a : StSh := ⟨.normal, [0, 1], (.cons (.agg (.cons (.sl true true yD) (.cons (.int .i64) (.cons (.int .i64) .nil)))) (.cons (.agg (.cons (.sl true true yD) (.cons (.int .i64) (.cons (.int .i64) .nil)))) .nil)), .nil⟩
def qp_res : List StSh := [⟨.ret, [0], (.cons .bool .nil), .nil⟩]
def qp_tbl (n : Nat) : FuncId → List Entry := fun f => bif Nat.beq f 74 then [qby_E n] else []
def qp_loops (n : Nat) : Nat → Option LEntry := fun f => none
theorem qp_run (n : Nat) (a_0 : DA) (a_0_1 : Int) (a_0_2 : Int) (b_1 : DA) (b_1_1 : Int) (b_1_2 : Int) : funDS (real _) tab (qp_tbl n) (qp_loops n) qp_an Try.f78 0 qp_a qp_res ((a_0, (a_0_1, a_0_2)), (b_1, (b_1_1, b_1_2))) some = qp n a_0 a_0_1 a_0_2 b_1 b_1_1 b_1_2 := by kernel_rfl
def qp_E (n : Nat) : Entry := ⟨qp_a, qp_res, fun d => qp n d.1.1 d.1.2.1 d.1.2.2 d.2.1 d.2.2.1 d.2.2.2⟩
theorem qp_ok (n : Nat) : EOK Try.prog 78 (qp_E n) :=
 EOK.ofS prog_names prog_mixed tab_ok (tbl := qp_tbl n) (loops := qp_loops n) (an := qp_an) (old := []) (n := n) (c := qp_c) (fn := Try.f78) (TblOK.cons (AllE.cons (qby_ok n) AllE.nil) TblOK.nil) (by kernel_rfl) (by kernel_rfl) (by kernel_rfl) (by kernel_rfl) (fun d => by kernel_rfl) LT.nil (fun a => qp_run n a.1.1 a.1.2.1 a.1.2.2 a.2.1 a.2.2.1 a.2.2.2)
def qac_h0 : List StSh := [⟨.normal, [1, 2, 15, 16, 17], (.cons (.sl true true yC) (.cons (.fn 78 .nil .nil) (.cons (.sl true true yC) (.cons (.int .i64) (.cons (.int .i64) .nil))))), .nil⟩]
def qac_o0 : List StSh := [⟨.ret, [6], (.cons .bool .nil), (.cons (.bcells 0 false 1 (.cons (.sl true true yD) (.cons (.int .i64) (.cons (.int .i64) .nil)))) (.cons (.bcells 0 false 1 (.cons (.sl true true yD) (.cons (.int .i64) (.cons (.int .i64) .nil)))) .nil))⟩, ⟨.exit 0, [], .nil, .nil⟩]
def qac_L0 (n : Nat) : LEntry := ⟨qac_h0, qac_o0, qac_W0 n⟩
def qac_res : List StSh := [⟨.ret, [0], (.cons .bool .nil), .nil⟩]
def qac_tbl (n : Nat) : FuncId → List Entry := fun f => bif Nat.beq f 78 then [qp_E n] else []
def qac_loops (n : Nat) : Nat → Option LEntry := fun f => bif Nat.beq f 0 then some (qac_L0 n) else none
theorem qac_r0 (n : Nat) (s2_1 : DI) (t15 : DI) (t16 : Int) (t17 : Int) : roundK (real _) tab (qac_tbl n) (qac_loops n) qac_an [] qac_l0 0 [1, 2, 15, 16, 17] qac_h0 qac_o0 (s2_1, (t15, (t16, t17))) some = qac_B0 n s2_1 t15 t16 t17 := by kernel_rfl
theorem qac_f0 (n : Nat) : LoopFact tab (qac_tbl n) (qac_loops n) qac_an [] n 0 qac_l0 (qac_L0 n) := ⟨[1, 2, 15, 16, 17], (fun s => qac_B0 n s.1 s.2.1 s.2.2.1 s.2.2.2), by kernel_rfl, by kernel_rfl, fun s => rfl, fun s => qac_r0 n s.1 s.2.1 s.2.2.1 s.2.2.2⟩
theorem qac_run (n : Nat) (s1_0 : DI) (s2_1 : DI) : funDS (real _) tab (qac_tbl n) (qac_loops n) qac_an Try.f77 0 qac_a qac_res (s1_0, s2_1) some = qac n s1_0 s2_1 := by kernel_rfl
def qac_E (n : Nat) : Entry := ⟨qac_a, qac_res, fun d => qac n d.1 d.2⟩
theorem qac_ok (n : Nat) : EOK Try.prog 77 (qac_E n) :=
 EOK.ofS prog_names prog_mixed tab_ok (tbl := qac_tbl n) (loops := qac_loops n) (an := qac_an) (old := []) (n := n) (c := qac_c) (fn := Try.f77) (TblOK.cons (AllE.cons (qp_ok n) AllE.nil) TblOK.nil) (by kernel_rfl) (by kernel_rfl) (by kernel_rfl) (by kernel_rfl) (fun d => by kernel_rfl) (LT.cons (by kernel_rfl) (qac_f0 n) LT.nil) (fun a => qac_run n a.1 a.2)
def qbm_an : Ann := { live := [(0, [0, 1, 12, 13])] }
def qbm_c : Code := (match Try.f79.body with | some c => c | none => .skip)
def qbm_l0 : Code := (match assoc 0 (loopsIn qbm_c 0) with | some c => c | none => .skip)
def qbm_a : StSh := ⟨.normal, [0, 1], (.cons (.sl true false (.int .u64)) (.cons (.sl true false (.int .u64)) .nil)), .nil⟩
def qbm_h0 : List StSh := [⟨.normal, [0, 1, 12, 13], (.cons (.sl true false (.int .u64)) (.cons (.sl true false (.int .u64)) (.cons (.int .i64) (.cons (.int .i64) .nil)))), .nil⟩]
def qbm_o0 : List StSh := [⟨.ret, [4], (.cons .bool .nil), .nil⟩, ⟨.exit 0, [], .nil, .nil⟩]
def qbm_L0 (n : Nat) : LEntry := ⟨qbm_h0, qbm_o0, qbm_W0 n⟩
def qbm_res : List StSh := [⟨.ret, [0], (.cons .bool .nil), .nil⟩]
def qbm_tbl (n : Nat) : FuncId → List Entry := fun f => []
def qbm_loops (n : Nat) : Nat → Option LEntry := fun f => bif Nat.beq f 0 then some (qbm_L0 n) else none
theorem qbm_r0 (n : Nat) (s1_0 : DC) (s2_1 : DC) (t12 : Int) (t13 : Int) : roundK (real _) tab (qbm_tbl n) (qbm_loops n) qbm_an [] qbm_l0 0 [0, 1, 12, 13] qbm_h0 qbm_o0 (s1_0, (s2_1, (t12, t13))) some = qbm_B0 n s1_0 s2_1 t12 t13 := by kernel_rfl
theorem qbm_f0 (n : Nat) : LoopFact tab (qbm_tbl n) (qbm_loops n) qbm_an [] n 0 qbm_l0 (qbm_L0 n) := ⟨[0, 1, 12, 13], (fun s => qbm_B0 n s.1 s.2.1 s.2.2.1 s.2.2.2), by kernel_rfl, by kernel_rfl, fun s => rfl, fun s => qbm_r0 n s.1 s.2.1 s.2.2.1 s.2.2.2⟩
theorem qbm_run (n : Nat) (s1_0 : DC) (s2_1 : DC) : funDS (real _) tab (qbm_tbl n) (qbm_loops n) qbm_an Try.f79 0 qbm_a qbm_res (s1_0, s2_1) some = qbm n s1_0 s2_1 := by kernel_rfl
def qbm_E (n : Nat) : Entry := ⟨qbm_a, qbm_res, fun d => qbm n d.1 d.2⟩
theorem qbm_ok (n : Nat) : EOK Try.prog 79 (qbm_E n) :=
 EOK.ofS prog_names prog_mixed tab_ok (tbl := qbm_tbl n) (loops := qbm_loops n) (an := qbm_an) (old := []) (n := n) (c := qbm_c) (fn := Try.f79) TblOK.nil (by kernel_rfl) (by kernel_rfl) (by kernel_rfl) (by kernel_rfl) (fun d => by kernel_rfl) (LT.cons (by kernel_rfl) (qbm_f0 n) LT.nil) (fun a => qbm_run n a.1 a.2)
def qbq_an : Ann := { live := [(0, [0, 1, 12, 13])] }
def qbq_c : Code := (match Try.f80.body with | some c => c | none => .skip)
def qbq_l0 : Code := (match assoc 0 (loopsIn qbq_c 0) with | some c => c | none => .skip)
def qbq_a : StSh := ⟨.normal, [0, 1], (.cons (.sl true false .str) (.cons (.sl true false .str) .nil)), .nil⟩
def qbq_h0 : List StSh := [⟨.normal, [0, 1, 12, 13], (.cons (.sl true false .str) (.cons (.sl true false .str) (.cons (.int .i64) (.cons (.int .i64) .nil)))), .nil⟩]
def qbq_o0 : List StSh := [⟨.ret, [4], (.cons .bool .nil), .nil⟩, ⟨.exit 0, [], .nil, .nil⟩]
def qbq_L0 (n : Nat) : LEntry := ⟨qbq_h0, qbq_o0, qbq_W0 n⟩
def qbq_res : List StSh := [⟨.ret, [0], (.cons .bool .nil), .nil⟩]
def qbq_tbl (n : Nat) : FuncId → List Entry := fun f => []
def qbq_loops (n : Nat) : Nat → Option LEntry := fun f => bif Nat.beq f 0 then some (qbq_L0 n) else none
theorem qbq_r0 (n : Nat) (s1_0 : DD) (s2_1 : DD) (t12 : Int) (t13 : Int) : roundK (real _) tab (qbq_tbl n) (qbq_loops n) qbq_an [] qbq_l0 0 [0, 1, 12, 13] qbq_h0 qbq_o0 (s1_0, (s2_1, (t12, t13))) some = qbq_B0 n s1_0 s2_1 t12 t13 := by kernel_rfl
theorem qbq_f0 (n : Nat) : LoopFact tab (qbq_tbl n) (qbq_loops n) qbq_an [] n 0 qbq_l0 (qbq_L0 n) := ⟨[0, 1, 12, 13], (fun s => qbq_B0 n s.1 s.2.1 s.2.2.1 s.2.2.2), by kernel_rfl, by kernel_rfl, fun s => rfl, fun s => qbq_r0 n s.1 s.2.1 s.2.2.1 s.2.2.2⟩
theorem qbq_run (n : Nat) (s1_0 : DD) (s2_1 : DD) : funDS (real _) tab (qbq_tbl n) (qbq_loops n) qbq_an Try.f80 0 qbq_a qbq_res (s1_0, s2_1) some = qbq n s1_0 s2_1 := by kernel_rfl
def qbq_E (n : Nat) : Entry := ⟨qbq_a, qbq_res, fun d => qbq n d.1 d.2⟩
theorem qbq_ok (n : Nat) : EOK Try.prog 80 (qbq_E n) :=
 EOK.ofS prog_names prog_mixed tab_ok (tbl := qbq_tbl n) (loops := qbq_loops n) (an := qbq_an) (old := []) (n := n) (c := qbq_c) (fn := Try.f80) TblOK.nil (by kernel_rfl) (by kernel_rfl) (by kernel_rfl) (by kernel_rfl) (fun d => by kernel_rfl) (LT.cons (by kernel_rfl) (qbq_f0 n) LT.nil) (fun a => qbq_run n a.1 a.2)
def qbu_res : List StSh := [⟨.ret, [0], (.cons .bool .nil), .nil⟩]
def qbu_tbl (n : Nat) : FuncId → List Entry := fun f => bif Nat.beq f 73 then [qap_E n] else bif Nat.beq f 75 then [qav_E n] else bif Nat.beq f 77 then [qac_E n] else bif Nat.beq f 79 then [qbm_E n] else bif Nat.beq f 80 then [qbq_E n] else []
def qbu_loops (n : Nat) : Nat → Option LEntry := fun f => none
theorem qbu_run (n : Nat) (a_0 : DG) (a_0_1 : DH) (a_0_2 : DI) (a_0_3 : DC) (a_0_4 : DD) (b_1 : DG) (b_1_1 : DH) (b_1_2 : DI) (b_1_3 : DC) (b_1_4 : DD) : funDS (real _) tab (qbu_tbl n) (qbu_loops n) qbu_an Try.f27 0 qbu_a qbu_res ((a_0, (a_0_1, (a_0_2, (a_0_3, a_0_4)))), (b_1, (b_1_1, (b_1_2, (b_1_3, b_1_4))))) some = qbu n a_0 a_0_1 a_0_2 a_0_3 a_0_4 b_1 b_1_1 b_1_2 b_1_3 b_1_4 := by kernel_rfl
def qbu_E (n : Nat) : Entry := ⟨qbu_a, qbu_res, fun d => qbu n d.1.1 d.1.2.1 d.1.2.2.1 d.1.2.2.2.1 d.1.2.2.2.2 d.2.1 d.2.2.1 d.2.2.2.1 d.2.2.2.2.1 d.2.2.2.2.2⟩
theorem qbu_ok (n : Nat) : EOK Try.prog 27 (qbu_E n) :=
 EOK.ofS prog_names prog_mixed tab_ok (tbl := qbu_tbl n) (loops := qbu_loops n) (an := qbu_an) (old := []) (n := n) (c := qbu_c) (fn := Try.f27) (TblOK.cons (AllE.cons (qap_ok n) AllE.nil) (TblOK.cons (AllE.cons (qav_ok n) AllE.nil) (TblOK.cons (AllE.cons (qac_ok n) AllE.nil) (TblOK.cons (AllE.cons (qbm_ok n) AllE.nil) (TblOK.cons (AllE.cons (qbq_ok n) AllE.nil) TblOK.nil))))) (by kernel_rfl) (by kernel_rfl) (by kernel_rfl) (by kernel_rfl) (fun d => by kernel_rfl) LT.nil (fun a => qbu_run n a.1.1 a.1.2.1 a.1.2.2.1 a.1.2.2.2.1 a.1.2.2.2.2 a.2.1 a.2.2.1 a.2.2.2.1 a.2.2.2.2.1 a.2.2.2.2.2)
def qbl_an : Ann := {}
def qbl_c : Code := (match Try.f22.body with | some c => c | none => .skip)
def qbl_a : StSh := ⟨.normal, [0], (.cons (.agg (.cons (.sl true false yA) (.cons (.sl true true yB) (.cons (.sl true true yC) (.cons (.sl true false (.int .u64)) (.cons (.sl true false .str) .nil)))))) .nil), .nil⟩
def qcr_an : Ann := { live := [(0, [3, 7, 8, 9]), (2, [3, 7, 8, 9, 17])] }
def qcr_c : Code := (match Try.f52.body with | some c => c | none => .skip)
def qcr_l0 : Code := (match assoc 0 (loopsIn qcr_c 0) with | some c => c | none => .skip)
def qcr_l2 : Code := (match assoc 2 (loopsIn qcr_c 0) with | some c => c | none => .skip)
def qcr_a : StSh := ⟨.normal, [0], (.cons (.sl true false (.int .u8)) .nil), .nil⟩
def qcr_h2 : List StSh := [⟨.normal, [3, 7, 8, 9, 17], (.cons (.int .u32) (.cons (.sl true false (.int .u8)) (.cons (.int .i64) (.cons (.int .i64) (.cons (.int .i64) .nil))))), .nil⟩]
def qcr_o2 : List StSh := [⟨.exit 2, [3, 7, 8, 9], (.cons (.int .u32) (.cons (.sl true false (.int .u8)) (.cons (.int .i64) (.cons (.int .i64) .nil)))), .nil⟩]
def qcr_L2 (n : Nat) : LEntry := ⟨qcr_h2, qcr_o2, qcr_W2 n⟩
def qcr_h0 : List StSh := [⟨.normal, [3, 7, 8, 9], (.cons (.int .u32) (.cons (.sl true false (.int .u8)) (.cons (.int .i64) (.cons (.int .i64) .nil)))), .nil⟩]
def qcr_o0 : List StSh := [⟨.exit 0, [3], (.cons (.int .u32) .nil), .nil⟩]
def qcr_L0 (n : Nat) : LEntry := ⟨qcr_h0, qcr_o0, qcr_W0 n⟩
def qcr_res : List StSh := [⟨.ret, [0], (.cons (.int .u32) .nil), .nil⟩]
def qcr_tbl (n : Nat) : FuncId → List Entry := fun f => []
def qcr_loops (n : Nat) : Nat → Option LEntry := fun f => bif Nat.beq f 2 then some (qcr_L2 n) else bif Nat.beq f 0 then some (qcr_L0 n) else none
theorem qcr_r2 (n : Nat) (n_3 : Int) (t7 : DC) (t8 : Int) (t9 : Int) (t17 : Int) : roundK (real _) tab (qcr_tbl n) (qcr_loops n) qcr_an [] qcr_l2 2 [3, 7, 8, 9, 17] qcr_h2 qcr_o2 (n_3, (t7, (t8, (t9, t17)))) some = qcr_B2 n n_3 t7 t8 t9 t17 := by kernel_rfl
theorem qcr_f2 (n : Nat) : LoopFact tab (qcr_tbl n) (qcr_loops n) qcr_an [] n 2 qcr_l2 (qcr_L2 n) := ⟨[3, 7, 8, 9, 17], (fun s => qcr_B2 n s.1 s.2.1 s.2.2.1 s.2.2.2.1 s.2.2.2.2), by kernel_rfl, by kernel_rfl, fun s => rfl, fun s => qcr_r2 n s.1 s.2.1 s.2.2.1 s.2.2.2.1 s.2.2.2.2⟩
theorem qcr_r0 (n : Nat) (n_3 : Int) (t7 : DC) (t8 : Int) (t9 : Int) : roundK (real _) tab (qcr_tbl n) (qcr_loops n) qcr_an [] qcr_l0 0 [3, 7, 8, 9] qcr_h0 qcr_o0 (n_3, (t7, (t8, t9))) some = qcr_B0 n n_3 t7 t8 t9 := by kernel_rfl
theorem qcr_f0 (n : Nat) : LoopFact tab (qcr_tbl n) (qcr_loops n) qcr_an [] n 0 qcr_l0 (qcr_L0 n) := ⟨[3, 7, 8, 9], (fun s => qcr_B0 n s.1 s.2.1 s.2.2.1 s.2.2.2), by kernel_rfl, by kernel_rfl, fun s => rfl, fun s => qcr_r0 n s.1 s.2.1 s.2.2.1 s.2.2.2⟩
theorem qcr_run (n : Nat) (b_0 : DC) : funDS (real _) tab (qcr_tbl n) (qcr_loops n) qcr_an Try.f52 0 qcr_a qcr_res b_0 some = qcr n b_0 := by kernel_rfl
def qcr_E (n : Nat) : Entry := ⟨qcr_a, qcr_res, fun d => qcr n d⟩
theorem qcr_ok (n : Nat) : EOK Try.prog 52 (qcr_E n) :=
 EOK.ofS prog_names prog_mixed tab_ok (tbl := qcr_tbl n) (loops := qcr_loops n) (an := qcr_an) (old := []) (n := n) (c := qcr_c) (fn := Try.f52) TblOK.nil (by kernel_rfl) (by kernel_rfl) (by kernel_rfl) (by kernel_rfl) (fun d => by kernel_rfl) (LT.cons (by kernel_rfl) (qcr_f2 n) (LT.cons (by kernel_rfl) (qcr_f0 n) LT.nil)) (fun a => qcr_run n a)
def qbl_res : List StSh := [⟨.ret, [0], (.cons (.int .u32) .nil), .nil⟩]
def qbl_tbl (n : Nat) : FuncId → List Entry := fun f => bif Nat.beq f 20 then [qbf_E n] else bif Nat.beq f 52 then [qcr_E n] else []
def qbl_loops (n : Nat) : Nat → Option LEntry := fun f => none
theorem qbl_run (n : Nat) (m_0 : DG) (m_0_1 : DH) (m_0_2 : DI) (m_0_3 : DC) (m_0_4 : DD) : funDS (real _) tab (qbl_tbl n) (qbl_loops n) qbl_an Try.f22 0 qbl_a qbl_res (m_0, (m_0_1, (m_0_2, (m_0_3, m_0_4)))) some = qbl n m_0 m_0_1 m_0_2 m_0_3 m_0_4 := by kernel_rfl
def qbl_E (n : Nat) : Entry := ⟨qbl_a, qbl_res, fun d => qbl n d.1 d.2.1 d.2.2.1 d.2.2.2.1 d.2.2.2.2⟩
theorem qbl_ok (n : Nat) : EOK Try.prog 22 (qbl_E n) :=
 EOK.ofS prog_names prog_mixed tab_ok (tbl := qbl_tbl n) (loops := qbl_loops n) (an := qbl_an) (old := []) (n := n) (c := qbl_c) (fn := Try.f22) (TblOK.cons (AllE.cons (qbf_ok n) AllE.nil) (TblOK.cons (AllE.cons (qcr_ok n) AllE.nil) TblOK.nil)) (by kernel_rfl) (by kernel_rfl) (by kernel_rfl) (by kernel_rfl) (fun d => by kernel_rfl) LT.nil (fun a => qbl_run n a.1 a.2.1 a.2.2.1 a.2.2.2.1 a.2.2.2.2)
def qbg_res : List StSh := [⟨.ret, [0], (.cons .bool .nil), .nil⟩]
def qbg_tbl (n : Nat) : FuncId → List Entry := fun f => bif Nat.beq f 20 then [qbf_E n] else bif Nat.beq f 23 then [qba_E n] else bif Nat.beq f 27 then [qbu_E n] else bif Nat.beq f 22 then [qbl_E n] else []
def qbg_loops (n : Nat) : Nat → Option LEntry := fun f => none
theorem qbg_run (n : Nat) : funDS (real _) tab (qbg_tbl n) (qbg_loops n) qbg_an Try.f19 0 qbg_a qbg_res () some = qbg n := by kernel_rfl
def qbg_E (n : Nat) : Entry := ⟨qbg_a, qbg_res, fun d => qbg n⟩
theorem qbg_ok (n : Nat) : EOK Try.prog 19 (qbg_E n) :=
 EOK.ofS prog_names prog_mixed tab_ok (tbl := qbg_tbl n) (loops := qbg_loops n) (an := qbg_an) (old := []) (n := n) (c := qbg_c) (fn := Try.f19) (TblOK.cons (AllE.cons (qbf_ok n) AllE.nil) (TblOK.cons (AllE.cons (qba_ok n) AllE.nil) (TblOK.cons (AllE.cons (qbu_ok n) AllE.nil) (TblOK.cons (AllE.cons (qbl_ok n) AllE.nil) TblOK.nil)))) (by kernel_rfl) (by kernel_rfl) (by kernel_rfl) (by kernel_rfl) (fun d => by kernel_rfl) LT.nil (fun a => qbg_run n)
def qbh_an : Ann := { live := [(0, [1, 4, 5, 6, 7]), (2, [1, 4, 5, 6, 10, 11]), (4, [1, 4, 5, 6, 10, 11, 12, 17]), (6, [1, 4, 5, 6, 10, 19, 20]), (8, [1, 5, 6, 10, 19, 23, 24]), (10, [1, 5, 6, 10, 19, 23, 25, 26])], boxed := [(10, 2), (21, 2), (21, 6), (21, 8), (21, 14), (28, 2), (35, 2), (35, 10), (40, 7), (46, 9), (46, 15)], raw := [(5, 2), (11, 4), (29, 4), (36, 4), (41, 4)] }
def qbh_c : Code := (match Try.f21.body with | some c => c | none => .skip)
def qbh_l0 : Code := (match assoc 0 (loopsIn qbh_c 0) with | some c => c | none => .skip)
def qbh_l2 : Code := (match assoc 2 (loopsIn qbh_c 0) with | some c => c | none => .skip)
def qbh_l4 : Code := (match assoc 4 (loopsIn qbh_c 0) with | some c => c | none => .skip)
def qbh_l6 : Code := (match assoc 6 (loopsIn qbh_c 0) with | some c => c | none => .skip)
def qbh_l8 : Code := (match assoc 8 (loopsIn qbh_c 0) with | some c => c | none => .skip)
def qbh_l10 : Code := (match assoc 10 (loopsIn qbh_c 0) with | some c => c | none => .skip)
def qbh_a : StSh := ⟨.normal, [0], (.cons (.agg (.cons (.sl true false yA) (.cons (.sl true true yB) (.cons (.sl true true yC) (.cons (.sl true false (.int .u64)) (.cons (.sl true false .str) .nil)))))) .nil), .nil⟩
def qch_an : Ann := { boxed := [(0, 0), (2, 2), (3, 4), (3, 8)] }
def qch_c : Code := (match Try.f46.body with | some c => c | none => .skip)
def qch_a : StSh := ⟨.normal, [0], (.cons (.int .u64) .nil), .nil⟩
def qch_res : List StSh := [⟨.ret, [0], (.cons (.msw 0 0) .nil), (.cons (.bts 0 false false false (.int .u8)) .nil)⟩]
def qch_Ed (n d : Nat) : Entry := ⟨qch_a, qch_res, qch_D n d⟩
def qch_tbl (n d : Nat) : FuncId → List Entry := fun f => bif Nat.beq f 46 then [qch_Ed n d] else []
def qch_loops (n : Nat) : Nat → Option LEntry := fun f => none
theorem qch_run (n d : Nat) (v_0 : Int) : funD (real _) tab (qch_tbl n d) (qch_loops n) qch_an Try.f46 qch_a qch_res v_0 some = qch_D n (d + 1) v_0 := by kernel_rfl
def qch_E (n : Nat) : Entry := ⟨qch_a, qch_res, fun d => qch n d⟩
theorem qch_okd (n : Nat) (d : Nat) : EOK Try.prog 46 (qch_Ed n d) :=
 Nat.rec (EOK.none (by kernel_rfl) fun _ => rfl) (fun d ih => EOK.of prog_names prog_mixed tab_ok (tbl := qch_tbl n d) (loops := qch_loops n) (an := qch_an) (old := []) (n := n) (c := qch_c) (fn := Try.f46) (TblOK.cons (AllE.cons ih AllE.nil) TblOK.nil) (by kernel_rfl) (by kernel_rfl) (by kernel_rfl) (by kernel_rfl) (fun d => by kernel_rfl) LT.nil (fun a => qch_run n d a)) d
theorem qch_ok (n : Nat) : EOK Try.prog 46 (qch_E n) := qch_okd n n
def qbs_an : Ann := { live := [(0, [0, 1, 2, 8, 9])], boxed := [(7, 6)], raw := [(1, 3)] }
def qbs_c : Code := (match Try.f47.body with | some c => c | none => .skip)
def qbs_l0 : Code := (match assoc 0 (loopsIn qbs_c 0) with | some c => c | none => .skip)
def qbs_a : StSh := ⟨.normal, [0, 1, 2], (.cons (.sl true true yD) (.cons (.int .i64) (.cons (.int .i64) .nil))), .nil⟩
def qbz_an : Ann := {}
def qbz_c : Code := (match Try.f18.body with | some c => c | none => .skip)
def qbz_a : StSh := ⟨.normal, [0, 1], (.cons (.agg (.cons (.int .i64) (.cons (.int .i64) .nil))) (.cons (.int .i64) .nil)), .nil⟩
def qbz_res : List StSh := [⟨.ret, [0], (.cons .bool .nil), .nil⟩]
def qbz_tbl (n : Nat) : FuncId → List Entry := fun f => []
def qbz_loops (n : Nat) : Nat → Option LEntry := fun f => none
theorem qbz_run (n : Nat) (t_0 : Int) (t_0_1 : Int) (recs_1 : Int) : funDS (real _) tab (qbz_tbl n) (qbz_loops n) qbz_an Try.f18 0 qbz_a qbz_res ((t_0, t_0_1), recs_1) some = qbz n t_0 t_0_1 recs_1 := by kernel_rfl
def qbz_E (n : Nat) : Entry := ⟨qbz_a, qbz_res, fun d => qbz n d.1.1 d.1.2 d.2⟩
theorem qbz_ok (n : Nat) : EOK Try.prog 18 (qbz_E n) :=
 EOK.ofS prog_names prog_mixed tab_ok (tbl := qbz_tbl n) (loops := qbz_loops n) (an := qbz_an) (old := []) (n := n) (c := qbz_c) (fn := Try.f18) TblOK.nil (by kernel_rfl) (by kernel_rfl) (by kernel_rfl) (by kernel_rfl) (fun d => by kernel_rfl) LT.nil (fun a => qbz_run n a.1.1 a.1.2 a.2)
def qce_an : Ann := { raw := [(6, 2)] }
def qce_c : Code := (match Try.f48.body with | some c => c | none => .skip)
def qce_a : StSh := ⟨.normal, [0], (.cons (.agg (.cons (.int .i64) (.cons (.int .i64) .nil))) .nil), .nil⟩
def qce_res : List StSh := [⟨.ret, [0], (.cons (.sl false false (.int .u8)) .nil), .nil⟩]
def qce_tbl (n : Nat) : FuncId → List Entry := fun f => bif Nat.beq f 46 then [qch_E n] else []
def qce_loops (n : Nat) : Nat → Option LEntry := fun f => none
theorem qce_run (n : Nat) (t_0 : Int) (t_0_1 : Int) : funDS (real _) tab (qce_tbl n) (qce_loops n) qce_an Try.f48 0 qce_a qce_res (t_0, t_0_1) some = qce n t_0 t_0_1 := by kernel_rfl
def qce_E (n : Nat) : Entry := ⟨qce_a, qce_res, fun d => qce n d.1 d.2⟩
theorem qce_ok (n : Nat) : EOK Try.prog 48 (qce_E n) :=
 EOK.ofS prog_names prog_mixed tab_ok (tbl := qce_tbl n) (loops := qce_loops n) (an := qce_an) (old := []) (n := n) (c := qce_c) (fn := Try.f48) (TblOK.cons (AllE.cons (qch_ok n) AllE.nil) TblOK.nil) (by kernel_rfl) (by kernel_rfl) (by kernel_rfl) (by kernel_rfl) (fun d => by kernel_rfl) LT.nil (fun a => qce_run n a.1 a.2)
def qbs_h0 : List StSh := [⟨.normal, [0, 1, 2, 8, 9], (.cons (.sl true true yD) (.cons (.int .i64) (.cons (.int .i64) (.cons (.msw 0 0) (.cons (.int .i64) .nil))))), (.cons (.bts 0 false false false (.int .u8)) .nil)⟩]
def qbs_o0 : List StSh := [⟨.ret, [6, 7], (.cons (.sl false false (.int .u8)) (.cons .bool .nil)), (.cons (.bts 0 false false false (.int .u8)) .nil)⟩, ⟨.exit 0, [0, 2, 8], (.cons (.sl true true yD) (.cons (.int .i64) (.cons (.msw 0 0) .nil))), (.cons (.bts 0 false false false (.int .u8)) .nil)⟩]
def qbs_L0 (n : Nat) : LEntry := ⟨qbs_h0, qbs_o0, qbs_W0 n⟩
def qbs_res : List StSh := [⟨.ret, [0], (.cons (.tup (.cons (.sl false false (.int .u8)) (.cons .bool .nil))) .nil), .nil⟩]
def qbs_tbl (n : Nat) : FuncId → List Entry := fun f => bif Nat.beq f 46 then [qch_E n] else bif Nat.beq f 18 then [qbz_E n] else bif Nat.beq f 48 then [qce_E n] else []
def qbs_loops (n : Nat) : Nat → Option LEntry := fun f => bif Nat.beq f 0 then some (qbs_L0 n) else none
theorem qbs_r0 (n : Nat) (l_0 : DA) (recs_1 : Int) (most_2 : Int) (i_9 : Int) (m0 : DC) : roundK (real _) tab (qbs_tbl n) (qbs_loops n) qbs_an [] qbs_l0 0 [0, 1, 2, 8, 9] qbs_h0 qbs_o0 ((l_0, (recs_1, (most_2, i_9))), m0) some = qbs_B0 n l_0 recs_1 most_2 i_9 m0 := by kernel_rfl
theorem qbs_f0 (n : Nat) : LoopFact tab (qbs_tbl n) (qbs_loops n) qbs_an [] n 0 qbs_l0 (qbs_L0 n) := ⟨[0, 1, 2, 8, 9], (fun s => qbs_B0 n s.1.1 s.1.2.1 s.1.2.2.1 s.1.2.2.2 s.2), by kernel_rfl, by kernel_rfl, fun s => rfl, fun s => qbs_r0 n s.1.1 s.1.2.1 s.1.2.2.1 s.1.2.2.2 s.2⟩
theorem qbs_run (n : Nat) (l_0 : DA) (recs_1 : Int) (most_2 : Int) : funDS (real _) tab (qbs_tbl n) (qbs_loops n) qbs_an Try.f47 0 qbs_a qbs_res (l_0, (recs_1, most_2)) some = qbs n l_0 recs_1 most_2 := by kernel_rfl
def qbs_E (n : Nat) : Entry := ⟨qbs_a, qbs_res, fun d => qbs n d.1 d.2.1 d.2.2⟩
theorem qbs_ok (n : Nat) : EOK Try.prog 47 (qbs_E n) :=
 EOK.ofS prog_names prog_mixed tab_ok (tbl := qbs_tbl n) (loops := qbs_loops n) (an := qbs_an) (old := []) (n := n) (c := qbs_c) (fn := Try.f47) (TblOK.cons (AllE.cons (qch_ok n) AllE.nil) (TblOK.cons (AllE.cons (qbz_ok n) AllE.nil) (TblOK.cons (AllE.cons (qce_ok n) AllE.nil) TblOK.nil))) (by kernel_rfl) (by kernel_rfl) (by kernel_rfl) (by kernel_rfl) (fun d => by kernel_rfl) (LT.cons (by kernel_rfl) (qbs_f0 n) LT.nil) (fun a => qbs_run n a.1 a.2.1 a.2.2)
def qbh_h0 : List StSh := [⟨.normal, [1, 4, 5, 6, 7], (.cons (.ptr 0 0 0 0) (.cons (.int .i64) (.cons .bool (.cons (.msw 1 0) (.cons (.int .i64) .nil))))), (.cons (.bcells 0 false 1 (.cons (.sl true false yA) (.cons (.sl true true yB) (.cons (.sl true true yC) (.cons (.sl true false (.int .u64)) (.cons (.sl true false .str) .nil)))))) (.cons (.bts 0 false false false (.int .u8)) .nil))⟩]
def qbh_o0 : List StSh := [⟨.exit 0, [1, 4, 5, 6], (.cons (.ptr 0 0 0 0) (.cons (.int .i64) (.cons .bool (.cons (.msw 1 0) .nil)))), (.cons (.bcells 0 false 1 (.cons (.sl true false yA) (.cons (.sl true true yB) (.cons (.sl true true yC) (.cons (.sl true false (.int .u64)) (.cons (.sl true false .str) .nil)))))) (.cons (.bts 0 false false false (.int .u8)) .nil))⟩]
def qbh_L0 (n : Nat) : LEntry := ⟨qbh_h0, qbh_o0, qbh_W0 n⟩
def qbv_an : Ann := { boxed := [(4, 3), (6, 5), (8, 5)] }
def qbv_c : Code := (match Try.f49.body with | some c => c | none => .skip)
def qbv_a : StSh := ⟨.normal, [0], (.cons (.agg (.cons (.int .i64) (.cons (.int .i64) (.cons (.int .i64) .nil)))) .nil), .nil⟩
def qca_an : Ann := { live := [(0, [0, 3, 4])] }
def qca_c : Code := (match Try.f101.body with | some c => c | none => .skip)
def qca_l0 : Code := (match assoc 0 (loopsIn qca_c 0) with | some c => c | none => .skip)
def qca_a : StSh := ⟨.normal, [0], (.cons (.int .i64) .nil), .nil⟩
def qca_h0 : List StSh := [⟨.normal, [0, 3, 4], (.cons (.int .i64) (.cons (.sl false false (.int .i64)) (.cons (.int .i64) .nil))), .nil⟩]
def qca_o0 : List StSh := [⟨.ret, [2], (.cons (.int .i64) .nil), .nil⟩, ⟨.exit 0, [], .nil, .nil⟩]
def qca_L0 (n : Nat) : LEntry := ⟨qca_h0, qca_o0, qca_W0 n⟩
def qca_res : List StSh := [⟨.ret, [0], (.cons (.int .i64) .nil), .nil⟩]
def qca_tbl (n : Nat) : FuncId → List Entry := fun f => []
def qca_loops (n : Nat) : Nat → Option LEntry := fun f => bif Nat.beq f 0 then some (qca_L0 n) else none
theorem qca_r0 (n : Nat) (op_0 : Int) (l_3 : DC) (i_4 : Int) : roundK (real _) tab (qca_tbl n) (qca_loops n) qca_an [] qca_l0 0 [0, 3, 4] qca_h0 qca_o0 (op_0, (l_3, i_4)) some = qca_B0 n op_0 l_3 i_4 := by kernel_rfl
theorem qca_f0 (n : Nat) : LoopFact tab (qca_tbl n) (qca_loops n) qca_an [] n 0 qca_l0 (qca_L0 n) := ⟨[0, 3, 4], (fun s => qca_B0 n s.1 s.2.1 s.2.2), by kernel_rfl, by kernel_rfl, fun s => rfl, fun s => qca_r0 n s.1 s.2.1 s.2.2⟩
theorem qca_run (n : Nat) (op_0 : Int) : funDS (real _) tab (qca_tbl n) (qca_loops n) qca_an Try.f101 0 qca_a qca_res op_0 some = qca n op_0 := by kernel_rfl
def qca_E (n : Nat) : Entry := ⟨qca_a, qca_res, fun d => qca n d⟩
theorem qca_ok (n : Nat) : EOK Try.prog 101 (qca_E n) :=
 EOK.ofS prog_names prog_mixed tab_ok (tbl := qca_tbl n) (loops := qca_loops n) (an := qca_an) (old := []) (n := n) (c := qca_c) (fn := Try.f101) TblOK.nil (by kernel_rfl) (by kernel_rfl) (by kernel_rfl) (by kernel_rfl) (fun d => by kernel_rfl) (LT.cons (by kernel_rfl) (qca_f0 n) LT.nil) (fun a => qca_run n a)
def qbv_res : List StSh := [⟨.ret, [0], (.cons (.sl false false (.int .u8)) .nil), .nil⟩]
def qbv_tbl (n : Nat) : FuncId → List Entry := fun f => bif Nat.beq f 101 then [qca_E n] else bif Nat.beq f 46 then [qch_E n] else []
def qbv_loops (n : Nat) : Nat → Option LEntry := fun f => none
theorem qbv_run (n : Nat) (t0 : Int) (t0_1 : Int) (t0_2 : Int) : funDS (real _) tab (qbv_tbl n) (qbv_loops n) qbv_an Try.f49 0 qbv_a qbv_res (t0, (t0_1, t0_2)) some = qbv n t0 t0_1 t0_2 := by kernel_rfl
def qbv_E (n : Nat) : Entry := ⟨qbv_a, qbv_res, fun d => qbv n d.1 d.2.1 d.2.2⟩
theorem qbv_ok (n : Nat) : EOK Try.prog 49 (qbv_E n) :=
 EOK.ofS prog_names prog_mixed tab_ok (tbl := qbv_tbl n) (loops := qbv_loops n) (an := qbv_an) (old := []) (n := n) (c := qbv_c) (fn := Try.f49) (TblOK.cons (AllE.cons (qca_ok n) AllE.nil) (TblOK.cons (AllE.cons (qch_ok n) AllE.nil) TblOK.nil)) (by kernel_rfl) (by kernel_rfl) (by kernel_rfl) (by kernel_rfl) (fun d => by kernel_rfl) LT.nil (fun a => qbv_run n a.1 a.2.1 a.2.2)
def qbh_h4 : List StSh := [⟨.normal, [1, 4, 5, 6, 10, 11, 12, 17], (.cons (.ptr 0 0 0 0) (.cons (.int .i64) (.cons .bool (.cons (.msw 1 0) (.cons (.msw 2 0) (.cons (.int .i64) (.cons (.ptr 3 0 0 0) (.cons (.int .i64) .nil)))))))), (.cons (.bcells 0 false 1 (.cons (.sl true false yA) (.cons (.sl true true yB) (.cons (.sl true true yC) (.cons (.sl true false (.int .u64)) (.cons (.sl true false .str) .nil)))))) (.cons (.bts 0 false false false (.int .u8)) (.cons (.bts 0 false false false (.int .u8)) (.cons (.bcells 0 false 1 (.cons (.sl true true yD) (.cons (.int .i64) (.cons (.int .i64) (.cons (.sl true true yD) (.cons (.sl true true yE) .nil)))))) .nil))))⟩]
def qbh_o4 : List StSh := [⟨.ret, [2, 3], (.cons (.sl false false (.int .u8)) (.cons .bool .nil)), (.cons (.bcells 0 false 1 (.cons (.sl true false yA) (.cons (.sl true true yB) (.cons (.sl true true yC) (.cons (.sl true false (.int .u64)) (.cons (.sl true false .str) .nil)))))) (.cons (.bts 0 false false false (.int .u8)) (.cons (.bts 0 false false false (.int .u8)) (.cons (.bcells 0 false 1 (.cons (.sl true true yD) (.cons (.int .i64) (.cons (.int .i64) (.cons (.sl true true yD) (.cons (.sl true true yE) .nil)))))) .nil))))⟩, ⟨.exit 4, [1, 4, 5, 6, 10, 11], (.cons (.ptr 0 0 0 0) (.cons (.int .i64) (.cons .bool (.cons (.msw 1 0) (.cons (.msw 2 0) (.cons (.int .i64) .nil)))))), (.cons (.bcells 0 false 1 (.cons (.sl true false yA) (.cons (.sl true true yB) (.cons (.sl true true yC) (.cons (.sl true false (.int .u64)) (.cons (.sl true false .str) .nil)))))) (.cons (.bts 0 false false false (.int .u8)) (.cons (.bts 0 false false false (.int .u8)) (.cons (.bcells 0 false 1 (.cons (.sl true true yD) (.cons (.int .i64) (.cons (.int .i64) (.cons (.sl true true yD) (.cons (.sl true true yE) .nil)))))) .nil))))⟩]
def qbh_L4 (n : Nat) : LEntry := ⟨qbh_h4, qbh_o4, qbh_W4 n⟩
def qbh_h2 : List StSh := [⟨.normal, [1, 4, 5, 6, 10, 11], (.cons (.ptr 0 0 0 0) (.cons (.int .i64) (.cons .bool (.cons (.msw 1 0) (.cons (.msw 2 0) (.cons (.int .i64) .nil)))))), (.cons (.bcells 0 false 1 (.cons (.sl true false yA) (.cons (.sl true true yB) (.cons (.sl true true yC) (.cons (.sl true false (.int .u64)) (.cons (.sl true false .str) .nil)))))) (.cons (.bts 0 false false false (.int .u8)) (.cons (.bts 0 false false false (.int .u8)) .nil)))⟩]
def qbh_o2 : List StSh := [⟨.ret, [2, 3], (.cons (.sl false false (.int .u8)) (.cons .bool .nil)), (.cons (.bcells 0 false 1 (.cons (.sl true false yA) (.cons (.sl true true yB) (.cons (.sl true true yC) (.cons (.sl true false (.int .u64)) (.cons (.sl true false .str) .nil)))))) (.cons (.bts 0 false false false (.int .u8)) (.cons (.bts 0 false false false (.int .u8)) (.cons (.bcells 0 false 1 (.cons (.sl true true yD) (.cons (.int .i64) (.cons (.int .i64) (.cons (.sl true true yD) (.cons (.sl true true yE) .nil)))))) .nil))))⟩, ⟨.exit 2, [1, 4, 5, 6, 10], (.cons (.ptr 0 0 0 0) (.cons (.int .i64) (.cons .bool (.cons (.msw 1 0) (.cons (.msw 2 0) .nil))))), (.cons (.bcells 0 false 1 (.cons (.sl true false yA) (.cons (.sl true true yB) (.cons (.sl true true yC) (.cons (.sl true false (.int .u64)) (.cons (.sl true false .str) .nil)))))) (.cons (.bts 0 false false false (.int .u8)) (.cons (.bts 0 false false false (.int .u8)) .nil)))⟩]
def qbh_L2 (n : Nat) : LEntry := ⟨qbh_h2, qbh_o2, qbh_W2 n⟩
def qbh_h6 : List StSh := [⟨.normal, [1, 4, 5, 6, 10, 19, 20], (.cons (.ptr 0 0 0 0) (.cons (.int .i64) (.cons .bool (.cons (.msw 1 0) (.cons (.msw 2 0) (.cons (.msw 3 0) (.cons (.int .i64) .nil))))))), (.cons (.bcells 0 false 1 (.cons (.sl true false yA) (.cons (.sl true true yB) (.cons (.sl true true yC) (.cons (.sl true false (.int .u64)) (.cons (.sl true false .str) .nil)))))) (.cons (.bts 0 false false false (.int .u8)) (.cons (.bts 0 false false false (.int .u8)) (.cons (.bts 0 false false false (.int .u8)) .nil))))⟩]
def qbh_o6 : List StSh := [⟨.exit 6, [1, 5, 6, 10, 19], (.cons (.ptr 0 0 0 0) (.cons .bool (.cons (.msw 1 0) (.cons (.msw 2 0) (.cons (.msw 3 0) .nil))))), (.cons (.bcells 0 false 1 (.cons (.sl true false yA) (.cons (.sl true true yB) (.cons (.sl true true yC) (.cons (.sl true false (.int .u64)) (.cons (.sl true false .str) .nil)))))) (.cons (.bts 0 false false false (.int .u8)) (.cons (.bts 0 false false false (.int .u8)) (.cons (.bts 0 false false false (.int .u8)) .nil))))⟩]
def qbh_L6 (n : Nat) : LEntry := ⟨qbh_h6, qbh_o6, qbh_W6 n⟩
def qbr_an : Ann := { live := [(0, [0, 1, 5, 6])], boxed := [(1, 0), (5, 5)] }
def qbr_c : Code := (match Try.f50.body with | some c => c | none => .skip)
def qbr_l0 : Code := (match assoc 0 (loopsIn qbr_c 0) with | some c => c | none => .skip)
def qbr_a : StSh := ⟨.normal, [0, 1], (.cons (.int .u64) (.cons (.int .i64) .nil)), .nil⟩
def qbr_h0 : List StSh := [⟨.normal, [0, 1, 5, 6], (.cons (.int .u64) (.cons (.int .i64) (.cons (.msw 0 0) (.cons (.int .i64) .nil)))), (.cons (.bts 0 false false false (.int .u8)) .nil)⟩]
def qbr_o0 : List StSh := [⟨.exit 0, [5], (.cons (.msw 0 0) .nil), (.cons (.bts 0 false false false (.int .u8)) .nil)⟩]
def qbr_L0 (n : Nat) : LEntry := ⟨qbr_h0, qbr_o0, qbr_W0 n⟩
def qbr_res : List StSh := [⟨.ret, [0], (.cons (.sl false false (.int .u8)) .nil), .nil⟩]
def qbr_tbl (n : Nat) : FuncId → List Entry := fun f => []
def qbr_loops (n : Nat) : Nat → Option LEntry := fun f => bif Nat.beq f 0 then some (qbr_L0 n) else none
theorem qbr_r0 (n : Nat) (v_0 : Int) (n_1 : Int) (k_6 : Int) (m0 : DC) : roundK (real _) tab (qbr_tbl n) (qbr_loops n) qbr_an [] qbr_l0 0 [0, 1, 5, 6] qbr_h0 qbr_o0 ((v_0, (n_1, k_6)), m0) some = qbr_B0 n v_0 n_1 k_6 m0 := by kernel_rfl
theorem qbr_f0 (n : Nat) : LoopFact tab (qbr_tbl n) (qbr_loops n) qbr_an [] n 0 qbr_l0 (qbr_L0 n) := ⟨[0, 1, 5, 6], (fun s => qbr_B0 n s.1.1 s.1.2.1 s.1.2.2 s.2), by kernel_rfl, by kernel_rfl, fun s => rfl, fun s => qbr_r0 n s.1.1 s.1.2.1 s.1.2.2 s.2⟩
theorem qbr_run (n : Nat) (v_0 : Int) (n_1 : Int) : funDS (real _) tab (qbr_tbl n) (qbr_loops n) qbr_an Try.f50 0 qbr_a qbr_res (v_0, n_1) some = qbr n v_0 n_1 := by kernel_rfl
def qbr_E (n : Nat) : Entry := ⟨qbr_a, qbr_res, fun d => qbr n d.1 d.2⟩
theorem qbr_ok (n : Nat) : EOK Try.prog 50 (qbr_E n) :=
 EOK.ofS prog_names prog_mixed tab_ok (tbl := qbr_tbl n) (loops := qbr_loops n) (an := qbr_an) (old := []) (n := n) (c := qbr_c) (fn := Try.f50) TblOK.nil (by kernel_rfl) (by kernel_rfl) (by kernel_rfl) (by kernel_rfl) (fun d => by kernel_rfl) (LT.cons (by kernel_rfl) (qbr_f0 n) LT.nil) (fun a => qbr_run n a.1 a.2)
def qbh_h8 : List StSh := [⟨.normal, [1, 5, 6, 10, 19, 23, 24], (.cons (.ptr 0 0 0 0) (.cons .bool (.cons (.msw 1 0) (.cons (.msw 2 0) (.cons (.msw 3 0) (.cons (.msw 4 0) (.cons (.int .i64) .nil))))))), (.cons (.bcells 0 false 1 (.cons (.sl true false yA) (.cons (.sl true true yB) (.cons (.sl true true yC) (.cons (.sl true false (.int .u64)) (.cons (.sl true false .str) .nil)))))) (.cons (.bts 0 false false false (.int .u8)) (.cons (.bts 0 false false false (.int .u8)) (.cons (.bts 0 false false false (.int .u8)) (.cons (.bts 0 false false false (.int .u8)) .nil)))))⟩]
def qbh_o8 : List StSh := [⟨.exit 8, [1, 5, 6, 10, 19, 23], (.cons (.ptr 0 0 0 0) (.cons .bool (.cons (.msw 1 0) (.cons (.msw 2 0) (.cons (.msw 3 0) (.cons (.msw 4 0) .nil)))))), (.cons (.bcells 0 false 1 (.cons (.sl true false yA) (.cons (.sl true true yB) (.cons (.sl true true yC) (.cons (.sl true false (.int .u64)) (.cons (.sl true false .str) .nil)))))) (.cons (.bts 0 false false false (.int .u8)) (.cons (.bts 0 false false false (.int .u8)) (.cons (.bts 0 false false false (.int .u8)) (.cons (.bts 0 false false false (.int .u8)) .nil)))))⟩]
def qbh_L8 (n : Nat) : LEntry := ⟨qbh_h8, qbh_o8, qbh_W8 n⟩
def qbh_h10 : List StSh := [⟨.normal, [1, 5, 6, 10, 19, 23, 25, 26], (.cons (.ptr 0 0 0 0) (.cons .bool (.cons (.msw 1 0) (.cons (.msw 2 0) (.cons (.msw 3 0) (.cons (.msw 4 0) (.cons (.msw 5 0) (.cons (.int .i64) .nil)))))))), (.cons (.bcells 0 false 1 (.cons (.sl true false yA) (.cons (.sl true true yB) (.cons (.sl true true yC) (.cons (.sl true false (.int .u64)) (.cons (.sl true false .str) .nil)))))) (.cons (.bts 0 false false false (.int .u8)) (.cons (.bts 0 false false false (.int .u8)) (.cons (.bts 0 false false false (.int .u8)) (.cons (.bts 0 false false false (.int .u8)) (.cons (.bts 0 false false false (.int .u8)) .nil))))))⟩]
def qbh_o10 : List StSh := [⟨.exit 10, [5, 6, 10, 19, 23, 25], (.cons .bool (.cons (.msw 1 0) (.cons (.msw 2 0) (.cons (.msw 3 0) (.cons (.msw 4 0) (.cons (.msw 5 0) .nil)))))), (.cons (.bcells 0 false 1 (.cons (.sl true false yA) (.cons (.sl true true yB) (.cons (.sl true true yC) (.cons (.sl true false (.int .u64)) (.cons (.sl true false .str) .nil)))))) (.cons (.bts 0 false false false (.int .u8)) (.cons (.bts 0 false false false (.int .u8)) (.cons (.bts 0 false false false (.int .u8)) (.cons (.bts 0 false false false (.int .u8)) (.cons (.bts 0 false false false (.int .u8)) .nil))))))⟩]
def qbh_L10 (n : Nat) : LEntry := ⟨qbh_h10, qbh_o10, qbh_W10 n⟩
def qcc_an : Ann := { live := [(0, [0, 3, 4])], boxed := [(5, 8), (5, 13)], raw := [(1, 3)] }
def qcc_c : Code := (match Try.f51.body with | some c => c | none => .skip)
def qcc_l0 : Code := (match assoc 0 (loopsIn qcc_c 0) with | some c => c | none => .skip)
def qcc_a : StSh := ⟨.normal, [0], (.cons (.sl true false yF) .nil), .nil⟩
def qcc_h0 : List StSh := [⟨.normal, [0, 3, 4], (.cons (.sl true false yF) (.cons (.msw 0 0) (.cons (.int .i64) .nil))), (.cons (.bts 0 false false false (.int .u8)) .nil)⟩]
def qcc_o0 : List StSh := [⟨.exit 0, [3], (.cons (.msw 0 0) .nil), (.cons (.bts 0 false false false (.int .u8)) .nil)⟩]
def qcc_L0 (n : Nat) : LEntry := ⟨qcc_h0, qcc_o0, qcc_W0 n⟩
def qcc_res : List StSh := [⟨.ret, [0], (.cons (.sl false false (.int .u8)) .nil), .nil⟩]
def qcc_tbl (n : Nat) : FuncId → List Entry := fun f => bif Nat.beq f 46 then [qch_E n] else []
def qcc_loops (n : Nat) : Nat → Option LEntry := fun f => bif Nat.beq f 0 then some (qcc_L0 n) else none
theorem qcc_r0 (n : Nat) (l_0 : DJ) (i_4 : Int) (m0 : DC) : roundK (real _) tab (qcc_tbl n) (qcc_loops n) qcc_an [] qcc_l0 0 [0, 3, 4] qcc_h0 qcc_o0 ((l_0, i_4), m0) some = qcc_B0 n l_0 i_4 m0 := by kernel_rfl
theorem qcc_f0 (n : Nat) : LoopFact tab (qcc_tbl n) (qcc_loops n) qcc_an [] n 0 qcc_l0 (qcc_L0 n) := ⟨[0, 3, 4], (fun s => qcc_B0 n s.1.1 s.1.2 s.2), by kernel_rfl, by kernel_rfl, fun s => rfl, fun s => qcc_r0 n s.1.1 s.1.2 s.2⟩
theorem qcc_run (n : Nat) (l_0 : DJ) : funDS (real _) tab (qcc_tbl n) (qcc_loops n) qcc_an Try.f51 0 qcc_a qcc_res l_0 some = qcc n l_0 := by kernel_rfl
def qcc_E (n : Nat) : Entry := ⟨qcc_a, qcc_res, fun d => qcc n d⟩
theorem qcc_ok (n : Nat) : EOK Try.prog 51 (qcc_E n) :=
 EOK.ofS prog_names prog_mixed tab_ok (tbl := qcc_tbl n) (loops := qcc_loops n) (an := qcc_an) (old := []) (n := n) (c := qcc_c) (fn := Try.f51) (TblOK.cons (AllE.cons (qch_ok n) AllE.nil) TblOK.nil) (by kernel_rfl) (by kernel_rfl) (by kernel_rfl) (by kernel_rfl) (fun d => by kernel_rfl) (LT.cons (by kernel_rfl) (qcc_f0 n) LT.nil) (fun a => qcc_run n a)
def qbh_res : List StSh := [⟨.ret, [0], (.cons (.tup (.cons (.sl false false (.int .u8)) (.cons .bool .nil))) .nil), .nil⟩]
def qbh_tbl (n : Nat) : FuncId → List Entry := fun f => bif Nat.beq f 46 then [qch_E n] else bif Nat.beq f 47 then [qbs_E n] else bif Nat.beq f 18 then [qbz_E n] else bif Nat.beq f 48 then [qce_E n] else bif Nat.beq f 49 then [qbv_E n] else bif Nat.beq f 50 then [qbr_E n] else bif Nat.beq f 51 then [qcc_E n] else []
def qbh_loops (n : Nat) : Nat → Option LEntry := fun f => bif Nat.beq f 0 then some (qbh_L0 n) else bif Nat.beq f 4 then some (qbh_L4 n) else bif Nat.beq f 2 then some (qbh_L2 n) else bif Nat.beq f 6 then some (qbh_L6 n) else bif Nat.beq f 8 then some (qbh_L8 n) else bif Nat.beq f 10 then some (qbh_L10 n) else none
theorem qbh_r0 (n : Nat) (t4 : Int) (t5 : Bool) (t7 : Int) (m0 : DG) (m0_1 : DH) (m0_2 : DI) (m0_3 : DC) (m0_4 : DD) (m1 : DC) : roundK (real _) tab (qbh_tbl n) (qbh_loops n) qbh_an [] qbh_l0 0 [1, 4, 5, 6, 7] qbh_h0 qbh_o0 ((t4, (t5, t7)), ((m0, (m0_1, (m0_2, (m0_3, m0_4)))), m1)) some = qbh_B0 n t4 t5 t7 m0 m0_1 m0_2 m0_3 m0_4 m1 := by kernel_rfl
theorem qbh_f0 (n : Nat) : LoopFact tab (qbh_tbl n) (qbh_loops n) qbh_an [] n 0 qbh_l0 (qbh_L0 n) := ⟨[1, 4, 5, 6, 7], (fun s => qbh_B0 n s.1.1 s.1.2.1 s.1.2.2 s.2.1.1 s.2.1.2.1 s.2.1.2.2.1 s.2.1.2.2.2.1 s.2.1.2.2.2.2 s.2.2), by kernel_rfl, by kernel_rfl, fun s => rfl, fun s => qbh_r0 n s.1.1 s.1.2.1 s.1.2.2 s.2.1.1 s.2.1.2.1 s.2.1.2.2.1 s.2.1.2.2.2.1 s.2.1.2.2.2.2 s.2.2⟩
theorem qbh_r4 (n : Nat) (t4 : Int) (t5 : Bool) (t11 : Int) (t17 : Int) (m0 : DG) (m0_1 : DH) (m0_2 : DI) (m0_3 : DC) (m0_4 : DD) (m1 : DC) (m2 : DC) (m3 : DA) (m3_1 : Int) (m3_2 : Int) (m3_3 : DA) (m3_4 : DB) : roundK (real _) tab (qbh_tbl n) (qbh_loops n) qbh_an [] qbh_l4 4 [1, 4, 5, 6, 10, 11, 12, 17] qbh_h4 qbh_o4 ((t4, (t5, (t11, t17))), ((m0, (m0_1, (m0_2, (m0_3, m0_4)))), (m1, (m2, (m3, (m3_1, (m3_2, (m3_3, m3_4)))))))) some = qbh_B4 n t4 t5 t11 t17 m0 m0_1 m0_2 m0_3 m0_4 m1 m2 m3 m3_1 m3_2 m3_3 m3_4 := by kernel_rfl
theorem qbh_f4 (n : Nat) : LoopFact tab (qbh_tbl n) (qbh_loops n) qbh_an [] n 4 qbh_l4 (qbh_L4 n) := ⟨[1, 4, 5, 6, 10, 11, 12, 17], (fun s => qbh_B4 n s.1.1 s.1.2.1 s.1.2.2.1 s.1.2.2.2 s.2.1.1 s.2.1.2.1 s.2.1.2.2.1 s.2.1.2.2.2.1 s.2.1.2.2.2.2 s.2.2.1 s.2.2.2.1 s.2.2.2.2.1 s.2.2.2.2.2.1 s.2.2.2.2.2.2.1 s.2.2.2.2.2.2.2.1 s.2.2.2.2.2.2.2.2), by kernel_rfl, by kernel_rfl, fun s => rfl, fun s => qbh_r4 n s.1.1 s.1.2.1 s.1.2.2.1 s.1.2.2.2 s.2.1.1 s.2.1.2.1 s.2.1.2.2.1 s.2.1.2.2.2.1 s.2.1.2.2.2.2 s.2.2.1 s.2.2.2.1 s.2.2.2.2.1 s.2.2.2.2.2.1 s.2.2.2.2.2.2.1 s.2.2.2.2.2.2.2.1 s.2.2.2.2.2.2.2.2⟩
theorem qbh_r2 (n : Nat) (t4 : Int) (t5 : Bool) (t11 : Int) (m0 : DG) (m0_1 : DH) (m0_2 : DI) (m0_3 : DC) (m0_4 : DD) (m1 : DC) (m2 : DC) : roundK (real _) tab (qbh_tbl n) (qbh_loops n) qbh_an [] qbh_l2 2 [1, 4, 5, 6, 10, 11] qbh_h2 qbh_o2 ((t4, (t5, t11)), ((m0, (m0_1, (m0_2, (m0_3, m0_4)))), (m1, m2))) some = qbh_B2 n t4 t5 t11 m0 m0_1 m0_2 m0_3 m0_4 m1 m2 := by kernel_rfl
theorem qbh_f2 (n : Nat) : LoopFact tab (qbh_tbl n) (qbh_loops n) qbh_an [] n 2 qbh_l2 (qbh_L2 n) := ⟨[1, 4, 5, 6, 10, 11], (fun s => qbh_B2 n s.1.1 s.1.2.1 s.1.2.2 s.2.1.1 s.2.1.2.1 s.2.1.2.2.1 s.2.1.2.2.2.1 s.2.1.2.2.2.2 s.2.2.1 s.2.2.2), by kernel_rfl, by kernel_rfl, fun s => rfl, fun s => qbh_r2 n s.1.1 s.1.2.1 s.1.2.2 s.2.1.1 s.2.1.2.1 s.2.1.2.2.1 s.2.1.2.2.2.1 s.2.1.2.2.2.2 s.2.2.1 s.2.2.2⟩
theorem qbh_r6 (n : Nat) (t4 : Int) (t5 : Bool) (t20 : Int) (m0 : DG) (m0_1 : DH) (m0_2 : DI) (m0_3 : DC) (m0_4 : DD) (m1 : DC) (m2 : DC) (m3 : DC) : roundK (real _) tab (qbh_tbl n) (qbh_loops n) qbh_an [] qbh_l6 6 [1, 4, 5, 6, 10, 19, 20] qbh_h6 qbh_o6 ((t4, (t5, t20)), ((m0, (m0_1, (m0_2, (m0_3, m0_4)))), (m1, (m2, m3)))) some = qbh_B6 n t4 t5 t20 m0 m0_1 m0_2 m0_3 m0_4 m1 m2 m3 := by kernel_rfl
theorem qbh_f6 (n : Nat) : LoopFact tab (qbh_tbl n) (qbh_loops n) qbh_an [] n 6 qbh_l6 (qbh_L6 n) := ⟨[1, 4, 5, 6, 10, 19, 20], (fun s => qbh_B6 n s.1.1 s.1.2.1 s.1.2.2 s.2.1.1 s.2.1.2.1 s.2.1.2.2.1 s.2.1.2.2.2.1 s.2.1.2.2.2.2 s.2.2.1 s.2.2.2.1 s.2.2.2.2), by kernel_rfl, by kernel_rfl, fun s => rfl, fun s => qbh_r6 n s.1.1 s.1.2.1 s.1.2.2 s.2.1.1 s.2.1.2.1 s.2.1.2.2.1 s.2.1.2.2.2.1 s.2.1.2.2.2.2 s.2.2.1 s.2.2.2.1 s.2.2.2.2⟩
theorem qbh_r8 (n : Nat) (t5 : Bool) (t24 : Int) (m0 : DG) (m0_1 : DH) (m0_2 : DI) (m0_3 : DC) (m0_4 : DD) (m1 : DC) (m2 : DC) (m3 : DC) (m4 : DC) : roundK (real _) tab (qbh_tbl n) (qbh_loops n) qbh_an [] qbh_l8 8 [1, 5, 6, 10, 19, 23, 24] qbh_h8 qbh_o8 ((t5, t24), ((m0, (m0_1, (m0_2, (m0_3, m0_4)))), (m1, (m2, (m3, m4))))) some = qbh_B8 n t5 t24 m0 m0_1 m0_2 m0_3 m0_4 m1 m2 m3 m4 := by kernel_rfl
theorem qbh_f8 (n : Nat) : LoopFact tab (qbh_tbl n) (qbh_loops n) qbh_an [] n 8 qbh_l8 (qbh_L8 n) := ⟨[1, 5, 6, 10, 19, 23, 24], (fun s => qbh_B8 n s.1.1 s.1.2 s.2.1.1 s.2.1.2.1 s.2.1.2.2.1 s.2.1.2.2.2.1 s.2.1.2.2.2.2 s.2.2.1 s.2.2.2.1 s.2.2.2.2.1 s.2.2.2.2.2), by kernel_rfl, by kernel_rfl, fun s => rfl, fun s => qbh_r8 n s.1.1 s.1.2 s.2.1.1 s.2.1.2.1 s.2.1.2.2.1 s.2.1.2.2.2.1 s.2.1.2.2.2.2 s.2.2.1 s.2.2.2.1 s.2.2.2.2.1 s.2.2.2.2.2⟩
theorem qbh_r10 (n : Nat) (t5 : Bool) (t26 : Int) (m0 : DG) (m0_1 : DH) (m0_2 : DI) (m0_3 : DC) (m0_4 : DD) (m1 : DC) (m2 : DC) (m3 : DC) (m4 : DC) (m5 : DC) : roundK (real _) tab (qbh_tbl n) (qbh_loops n) qbh_an [] qbh_l10 10 [1, 5, 6, 10, 19, 23, 25, 26] qbh_h10 qbh_o10 ((t5, t26), ((m0, (m0_1, (m0_2, (m0_3, m0_4)))), (m1, (m2, (m3, (m4, m5)))))) some = qbh_B10 n t5 t26 m0 m0_1 m0_2 m0_3 m0_4 m1 m2 m3 m4 m5 := by kernel_rfl
theorem qbh_f10 (n : Nat) : LoopFact tab (qbh_tbl n) (qbh_loops n) qbh_an [] n 10 qbh_l10 (qbh_L10 n) := ⟨[1, 5, 6, 10, 19, 23, 25, 26], (fun s => qbh_B10 n s.1.1 s.1.2 s.2.1.1 s.2.1.2.1 s.2.1.2.2.1 s.2.1.2.2.2.1 s.2.1.2.2.2.2 s.2.2.1 s.2.2.2.1 s.2.2.2.2.1 s.2.2.2.2.2.1 s.2.2.2.2.2.2), by kernel_rfl, by kernel_rfl, fun s => rfl, fun s => qbh_r10 n s.1.1 s.1.2 s.2.1.1 s.2.1.2.1 s.2.1.2.2.1 s.2.1.2.2.2.1 s.2.1.2.2.2.2 s.2.2.1 s.2.2.2.1 s.2.2.2.2.1 s.2.2.2.2.2.1 s.2.2.2.2.2.2⟩
theorem qbh_run (n : Nat) (t0 : DG) (t0_1 : DH) (t0_2 : DI) (t0_3 : DC) (t0_4 : DD) : funDS (real _) tab (qbh_tbl n) (qbh_loops n) qbh_an Try.f21 0 qbh_a qbh_res (t0, (t0_1, (t0_2, (t0_3, t0_4)))) some = qbh n t0 t0_1 t0_2 t0_3 t0_4 := by kernel_rfl
def qbh_E (n : Nat) : Entry := ⟨qbh_a, qbh_res, fun d => qbh n d.1 d.2.1 d.2.2.1 d.2.2.2.1 d.2.2.2.2⟩
theorem qbh_ok (n : Nat) : EOK Try.prog 21 (qbh_E n) :=
 EOK.ofS prog_names prog_mixed tab_ok (tbl := qbh_tbl n) (loops := qbh_loops n) (an := qbh_an) (old := []) (n := n) (c := qbh_c) (fn := Try.f21) (TblOK.cons (AllE.cons (qch_ok n) AllE.nil) (TblOK.cons (AllE.cons (qbs_ok n) AllE.nil) (TblOK.cons (AllE.cons (qbz_ok n) AllE.nil) (TblOK.cons (AllE.cons (qce_ok n) AllE.nil) (TblOK.cons (AllE.cons (qbv_ok n) AllE.nil) (TblOK.cons (AllE.cons (qbr_ok n) AllE.nil) (TblOK.cons (AllE.cons (qcc_ok n) AllE.nil) TblOK.nil))))))) (by kernel_rfl) (by kernel_rfl) (by kernel_rfl) (by kernel_rfl) (fun d => by kernel_rfl) (LT.cons (by kernel_rfl) (qbh_f0 n) (LT.cons (by kernel_rfl) (qbh_f4 n) (LT.cons (by kernel_rfl) (qbh_f2 n) (LT.cons (by kernel_rfl) (qbh_f6 n) (LT.cons (by kernel_rfl) (qbh_f8 n) (LT.cons (by kernel_rfl) (qbh_f10 n) LT.nil)))))) (fun a => qbh_run n a.1 a.2.1 a.2.2.1 a.2.2.2.1 a.2.2.2.2)
def qcd_an : Ann := { live := [(0, [0, 1, 5])] }
def qcd_c : Code := (match Try.f24.body with | some c => c | none => .skip)
def qcd_l0 : Code := (match assoc 0 (loopsIn qcd_c 0) with | some c => c | none => .skip)
def qcd_a : StSh := ⟨.normal, [0, 1], (.cons (.sl true false (.int .u8)) (.cons (.sl true false (.int .u8)) .nil)), .nil⟩
def qcd_h0 : List StSh := [⟨.normal, [0, 1, 5], (.cons (.sl true false (.int .u8)) (.cons (.sl true false (.int .u8)) (.cons (.int .i64) .nil))), .nil⟩]
def qcd_o0 : List StSh := [⟨.ret, [4], (.cons .bool .nil), .nil⟩, ⟨.exit 0, [], .nil, .nil⟩]
def qcd_L0 (n : Nat) : LEntry := ⟨qcd_h0, qcd_o0, qcd_W0 n⟩
def qcd_res : List StSh := [⟨.ret, [0], (.cons .bool .nil), .nil⟩]
def qcd_tbl (n : Nat) : FuncId → List Entry := fun f => []
def qcd_loops (n : Nat) : Nat → Option LEntry := fun f => bif Nat.beq f 0 then some (qcd_L0 n) else none
theorem qcd_r0 (n : Nat) (a_0 : DC) (b_1 : DC) (i_5 : Int) : roundK (real _) tab (qcd_tbl n) (qcd_loops n) qcd_an [] qcd_l0 0 [0, 1, 5] qcd_h0 qcd_o0 (a_0, (b_1, i_5)) some = qcd_B0 n a_0 b_1 i_5 := by kernel_rfl
theorem qcd_f0 (n : Nat) : LoopFact tab (qcd_tbl n) (qcd_loops n) qcd_an [] n 0 qcd_l0 (qcd_L0 n) := ⟨[0, 1, 5], (fun s => qcd_B0 n s.1 s.2.1 s.2.2), by kernel_rfl, by kernel_rfl, fun s => rfl, fun s => qcd_r0 n s.1 s.2.1 s.2.2⟩
theorem qcd_run (n : Nat) (a_0 : DC) (b_1 : DC) : funDS (real _) tab (qcd_tbl n) (qcd_loops n) qcd_an Try.f24 0 qcd_a qcd_res (a_0, b_1) some = qcd n a_0 b_1 := by kernel_rfl
def qcd_E (n : Nat) : Entry := ⟨qcd_a, qcd_res, fun d => qcd n d.1 d.2⟩
theorem qcd_ok (n : Nat) : EOK Try.prog 24 (qcd_E n) :=
 EOK.ofS prog_names prog_mixed tab_ok (tbl := qcd_tbl n) (loops := qcd_loops n) (an := qcd_an) (old := []) (n := n) (c := qcd_c) (fn := Try.f24) TblOK.nil (by kernel_rfl) (by kernel_rfl) (by kernel_rfl) (by kernel_rfl) (fun d => by kernel_rfl) (LT.cons (by kernel_rfl) (qcd_f0 n) LT.nil) (fun a => qcd_run n a.1 a.2)
def qv_an : Ann := { live := [(0, [2, 3, 5]), (2, [2, 3, 6]), (4, [2, 3, 6, 7, 8, 9]), (6, [2, 3, 10]), (8, [2, 3, 11]), (10, [2, 3, 12])] }
def qv_c : Code := (match Try.f25.body with | some c => c | none => .skip)
def qv_l0 : Code := (match assoc 0 (loopsIn qv_c 0) with | some c => c | none => .skip)
def qv_l2 : Code := (match assoc 2 (loopsIn qv_c 0) with | some c => c | none => .skip)
def qv_l4 : Code := (match assoc 4 (loopsIn qv_c 0) with | some c => c | none => .skip)
def qv_l6 : Code := (match assoc 6 (loopsIn qv_c 0) with | some c => c | none => .skip)
def qv_l8 : Code := (match assoc 8 (loopsIn qv_c 0) with | some c => c | none => .skip)
def qv_l10 : Code := (match assoc 10 (loopsIn qv_c 0) with | some c => c | none => .skip)
def qv_a : StSh := ⟨.normal, [0, 1], (.cons (.agg (.cons (.sl true false yA) (.cons (.sl true true yB) (.cons (.sl true true yC) (.cons (.sl true false (.int .u64)) (.cons (.sl true false .str) .nil)))))) (.cons (.agg (.cons (.sl true false yA) (.cons (.sl true true yB) (.cons (.sl true true yC) (.cons (.sl true false (.int .u64)) (.cons (.sl true false .str) .nil)))))) .nil)), .nil⟩
def qbe_an : Ann := { live := [(0, [0, 1, 5])] }
def qbe_c : Code := (match Try.f72.body with | some c => c | none => .skip)
def qbe_l0 : Code := (match assoc 0 (loopsIn qbe_c 0) with | some c => c | none => .skip)
def qbe_a : StSh := ⟨.normal, [0, 1], (.cons (.sl true true yD) (.cons (.sl true true yD) .nil)), .nil⟩
def qbe_h0 : List StSh := [⟨.normal, [0, 1, 5], (.cons (.sl true true yD) (.cons (.sl true true yD) (.cons (.int .i64) .nil))), .nil⟩]
def qbe_o0 : List StSh := [⟨.ret, [4], (.cons .bool .nil), .nil⟩, ⟨.exit 0, [], .nil, .nil⟩]
def qbe_L0 (n : Nat) : LEntry := ⟨qbe_h0, qbe_o0, qbe_W0 n⟩
def qbe_res : List StSh := [⟨.ret, [0], (.cons .bool .nil), .nil⟩]
def qbe_tbl (n : Nat) : FuncId → List Entry := fun f => []
def qbe_loops (n : Nat) : Nat → Option LEntry := fun f => bif Nat.beq f 0 then some (qbe_L0 n) else none
theorem qbe_r0 (n : Nat) (a_0 : DA) (b_1 : DA) (i_5 : Int) : roundK (real _) tab (qbe_tbl n) (qbe_loops n) qbe_an [] qbe_l0 0 [0, 1, 5] qbe_h0 qbe_o0 (a_0, (b_1, i_5)) some = qbe_B0 n a_0 b_1 i_5 := by kernel_rfl
theorem qbe_f0 (n : Nat) : LoopFact tab (qbe_tbl n) (qbe_loops n) qbe_an [] n 0 qbe_l0 (qbe_L0 n) := ⟨[0, 1, 5], (fun s => qbe_B0 n s.1 s.2.1 s.2.2), by kernel_rfl, by kernel_rfl, fun s => rfl, fun s => qbe_r0 n s.1 s.2.1 s.2.2⟩
theorem qbe_run (n : Nat) (a_0 : DA) (b_1 : DA) : funDS (real _) tab (qbe_tbl n) (qbe_loops n) qbe_an Try.f72 0 qbe_a qbe_res (a_0, b_1) some = qbe n a_0 b_1 := by kernel_rfl
def qbe_E (n : Nat) : Entry := ⟨qbe_a, qbe_res, fun d => qbe n d.1 d.2⟩
theorem qbe_ok (n : Nat) : EOK Try.prog 72 (qbe_E n) :=
 EOK.ofS prog_names prog_mixed tab_ok (tbl := qbe_tbl n) (loops := qbe_loops n) (an := qbe_an) (old := []) (n := n) (c := qbe_c) (fn := Try.f72) TblOK.nil (by kernel_rfl) (by kernel_rfl) (by kernel_rfl) (by kernel_rfl) (fun d => by kernel_rfl) (LT.cons (by kernel_rfl) (qbe_f0 n) LT.nil) (fun a => qbe_run n a.1 a.2)
def qv_h0 : List StSh := [⟨.normal, [2, 3, 5], (.cons (.ptr 0 0 0 0) (.cons (.ptr 1 0 0 0) (.cons (.int .i64) .nil))), (.cons (.bcells 0 false 1 (.cons (.sl true false yA) (.cons (.sl true true yB) (.cons (.sl true true yC) (.cons (.sl true false (.int .u64)) (.cons (.sl true false .str) .nil)))))) (.cons (.bcells 0 false 1 (.cons (.sl true false yA) (.cons (.sl true true yB) (.cons (.sl true true yC) (.cons (.sl true false (.int .u64)) (.cons (.sl true false .str) .nil)))))) .nil))⟩]
def qv_o0 : List StSh := [⟨.ret, [4], (.cons .bool .nil), (.cons (.bcells 0 false 1 (.cons (.sl true false yA) (.cons (.sl true true yB) (.cons (.sl true true yC) (.cons (.sl true false (.int .u64)) (.cons (.sl true false .str) .nil)))))) (.cons (.bcells 0 false 1 (.cons (.sl true false yA) (.cons (.sl true true yB) (.cons (.sl true true yC) (.cons (.sl true false (.int .u64)) (.cons (.sl true false .str) .nil)))))) .nil))⟩, ⟨.exit 0, [2, 3], (.cons (.ptr 0 0 0 0) (.cons (.ptr 1 0 0 0) .nil)), (.cons (.bcells 0 false 1 (.cons (.sl true false yA) (.cons (.sl true true yB) (.cons (.sl true true yC) (.cons (.sl true false (.int .u64)) (.cons (.sl true false .str) .nil)))))) (.cons (.bcells 0 false 1 (.cons (.sl true false yA) (.cons (.sl true true yB) (.cons (.sl true true yC) (.cons (.sl true false (.int .u64)) (.cons (.sl true false .str) .nil)))))) .nil))⟩]
def qv_L0 (n : Nat) : LEntry := ⟨qv_h0, qv_o0, qv_W0 n⟩
def qv_h4 : List StSh := [⟨.normal, [2, 3, 6, 7, 8, 9], (.cons (.ptr 0 0 0 0) (.cons (.ptr 1 0 0 0) (.cons (.int .i64) (.cons (.ptr 2 0 0 0) (.cons (.ptr 3 0 0 0) (.cons (.int .i64) .nil)))))), (.cons (.bcells 0 false 1 (.cons (.sl true false yA) (.cons (.sl true true yB) (.cons (.sl true true yC) (.cons (.sl true false (.int .u64)) (.cons (.sl true false .str) .nil)))))) (.cons (.bcells 0 false 1 (.cons (.sl true false yA) (.cons (.sl true true yB) (.cons (.sl true true yC) (.cons (.sl true false (.int .u64)) (.cons (.sl true false .str) .nil)))))) (.cons (.bcells 0 false 1 (.cons (.sl true true yD) (.cons (.int .i64) (.cons (.int .i64) (.cons (.sl true true yD) (.cons (.sl true true yE) .nil)))))) (.cons (.bcells 0 false 1 (.cons (.sl true true yD) (.cons (.int .i64) (.cons (.int .i64) (.cons (.sl true true yD) (.cons (.sl true true yE) .nil)))))) .nil))))⟩]
def qv_o4 : List StSh := [⟨.ret, [4], (.cons .bool .nil), (.cons (.bcells 0 false 1 (.cons (.sl true false yA) (.cons (.sl true true yB) (.cons (.sl true true yC) (.cons (.sl true false (.int .u64)) (.cons (.sl true false .str) .nil)))))) (.cons (.bcells 0 false 1 (.cons (.sl true false yA) (.cons (.sl true true yB) (.cons (.sl true true yC) (.cons (.sl true false (.int .u64)) (.cons (.sl true false .str) .nil)))))) (.cons (.bcells 0 false 1 (.cons (.sl true true yD) (.cons (.int .i64) (.cons (.int .i64) (.cons (.sl true true yD) (.cons (.sl true true yE) .nil)))))) (.cons (.bcells 0 false 1 (.cons (.sl true true yD) (.cons (.int .i64) (.cons (.int .i64) (.cons (.sl true true yD) (.cons (.sl true true yE) .nil)))))) .nil))))⟩, ⟨.exit 4, [2, 3, 6], (.cons (.ptr 0 0 0 0) (.cons (.ptr 1 0 0 0) (.cons (.int .i64) .nil))), (.cons (.bcells 0 false 1 (.cons (.sl true false yA) (.cons (.sl true true yB) (.cons (.sl true true yC) (.cons (.sl true false (.int .u64)) (.cons (.sl true false .str) .nil)))))) (.cons (.bcells 0 false 1 (.cons (.sl true false yA) (.cons (.sl true true yB) (.cons (.sl true true yC) (.cons (.sl true false (.int .u64)) (.cons (.sl true false .str) .nil)))))) (.cons (.bcells 0 false 1 (.cons (.sl true true yD) (.cons (.int .i64) (.cons (.int .i64) (.cons (.sl true true yD) (.cons (.sl true true yE) .nil)))))) (.cons (.bcells 0 false 1 (.cons (.sl true true yD) (.cons (.int .i64) (.cons (.int .i64) (.cons (.sl true true yD) (.cons (.sl true true yE) .nil)))))) .nil))))⟩]
def qv_L4 (n : Nat) : LEntry := ⟨qv_h4, qv_o4, qv_W4 n⟩
def qv_h2 : List StSh := [⟨.normal, [2, 3, 6], (.cons (.ptr 0 0 0 0) (.cons (.ptr 1 0 0 0) (.cons (.int .i64) .nil))), (.cons (.bcells 0 false 1 (.cons (.sl true false yA) (.cons (.sl true true yB) (.cons (.sl true true yC) (.cons (.sl true false (.int .u64)) (.cons (.sl true false .str) .nil)))))) (.cons (.bcells 0 false 1 (.cons (.sl true false yA) (.cons (.sl true true yB) (.cons (.sl true true yC) (.cons (.sl true false (.int .u64)) (.cons (.sl true false .str) .nil)))))) .nil))⟩]
def qv_o2 : List StSh := [⟨.ret, [4], (.cons .bool .nil), (.cons (.bcells 0 false 1 (.cons (.sl true false yA) (.cons (.sl true true yB) (.cons (.sl true true yC) (.cons (.sl true false (.int .u64)) (.cons (.sl true false .str) .nil)))))) (.cons (.bcells 0 false 1 (.cons (.sl true false yA) (.cons (.sl true true yB) (.cons (.sl true true yC) (.cons (.sl true false (.int .u64)) (.cons (.sl true false .str) .nil)))))) (.cons (.bcells 0 false 1 (.cons (.sl true true yD) (.cons (.int .i64) (.cons (.int .i64) (.cons (.sl true true yD) (.cons (.sl true true yE) .nil)))))) (.cons (.bcells 0 false 1 (.cons (.sl true true yD) (.cons (.int .i64) (.cons (.int .i64) (.cons (.sl true true yD) (.cons (.sl true true yE) .nil)))))) .nil))))⟩, ⟨.exit 2, [2, 3], (.cons (.ptr 0 0 0 0) (.cons (.ptr 1 0 0 0) .nil)), (.cons (.bcells 0 false 1 (.cons (.sl true false yA) (.cons (.sl true true yB) (.cons (.sl true true yC) (.cons (.sl true false (.int .u64)) (.cons (.sl true false .str) .nil)))))) (.cons (.bcells 0 false 1 (.cons (.sl true false yA) (.cons (.sl true true yB) (.cons (.sl true true yC) (.cons (.sl true false (.int .u64)) (.cons (.sl true false .str) .nil)))))) .nil))⟩]
def qv_L2 (n : Nat) : LEntry := ⟨qv_h2, qv_o2, qv_W2 n⟩
def qv_h6 : List StSh := [⟨.normal, [2, 3, 10], (.cons (.ptr 0 0 0 0) (.cons (.ptr 1 0 0 0) (.cons (.int .i64) .nil))), (.cons (.bcells 0 false 1 (.cons (.sl true false yA) (.cons (.sl true true yB) (.cons (.sl true true yC) (.cons (.sl true false (.int .u64)) (.cons (.sl true false .str) .nil)))))) (.cons (.bcells 0 false 1 (.cons (.sl true false yA) (.cons (.sl true true yB) (.cons (.sl true true yC) (.cons (.sl true false (.int .u64)) (.cons (.sl true false .str) .nil)))))) .nil))⟩]
def qv_o6 : List StSh := [⟨.ret, [4], (.cons .bool .nil), (.cons (.bcells 0 false 1 (.cons (.sl true false yA) (.cons (.sl true true yB) (.cons (.sl true true yC) (.cons (.sl true false (.int .u64)) (.cons (.sl true false .str) .nil)))))) (.cons (.bcells 0 false 1 (.cons (.sl true false yA) (.cons (.sl true true yB) (.cons (.sl true true yC) (.cons (.sl true false (.int .u64)) (.cons (.sl true false .str) .nil)))))) .nil))⟩, ⟨.exit 6, [2, 3], (.cons (.ptr 0 0 0 0) (.cons (.ptr 1 0 0 0) .nil)), (.cons (.bcells 0 false 1 (.cons (.sl true false yA) (.cons (.sl true true yB) (.cons (.sl true true yC) (.cons (.sl true false (.int .u64)) (.cons (.sl true false .str) .nil)))))) (.cons (.bcells 0 false 1 (.cons (.sl true false yA) (.cons (.sl true true yB) (.cons (.sl true true yC) (.cons (.sl true false (.int .u64)) (.cons (.sl true false .str) .nil)))))) .nil))⟩]
def qv_L6 (n : Nat) : LEntry := ⟨qv_h6, qv_o6, qv_W6 n⟩
def qv_h8 : List StSh := [⟨.normal, [2, 3, 11], (.cons (.ptr 0 0 0 0) (.cons (.ptr 1 0 0 0) (.cons (.int .i64) .nil))), (.cons (.bcells 0 false 1 (.cons (.sl true false yA) (.cons (.sl true true yB) (.cons (.sl true true yC) (.cons (.sl true false (.int .u64)) (.cons (.sl true false .str) .nil)))))) (.cons (.bcells 0 false 1 (.cons (.sl true false yA) (.cons (.sl true true yB) (.cons (.sl true true yC) (.cons (.sl true false (.int .u64)) (.cons (.sl true false .str) .nil)))))) .nil))⟩]
def qv_o8 : List StSh := [⟨.ret, [4], (.cons .bool .nil), (.cons (.bcells 0 false 1 (.cons (.sl true false yA) (.cons (.sl true true yB) (.cons (.sl true true yC) (.cons (.sl true false (.int .u64)) (.cons (.sl true false .str) .nil)))))) (.cons (.bcells 0 false 1 (.cons (.sl true false yA) (.cons (.sl true true yB) (.cons (.sl true true yC) (.cons (.sl true false (.int .u64)) (.cons (.sl true false .str) .nil)))))) .nil))⟩, ⟨.exit 8, [2, 3], (.cons (.ptr 0 0 0 0) (.cons (.ptr 1 0 0 0) .nil)), (.cons (.bcells 0 false 1 (.cons (.sl true false yA) (.cons (.sl true true yB) (.cons (.sl true true yC) (.cons (.sl true false (.int .u64)) (.cons (.sl true false .str) .nil)))))) (.cons (.bcells 0 false 1 (.cons (.sl true false yA) (.cons (.sl true true yB) (.cons (.sl true true yC) (.cons (.sl true false (.int .u64)) (.cons (.sl true false .str) .nil)))))) .nil))⟩]
def qv_L8 (n : Nat) : LEntry := ⟨qv_h8, qv_o8, qv_W8 n⟩
def qv_h10 : List StSh := [⟨.normal, [2, 3, 12], (.cons (.ptr 0 0 0 0) (.cons (.ptr 1 0 0 0) (.cons (.int .i64) .nil))), (.cons (.bcells 0 false 1 (.cons (.sl true false yA) (.cons (.sl true true yB) (.cons (.sl true true yC) (.cons (.sl true false (.int .u64)) (.cons (.sl true false .str) .nil)))))) (.cons (.bcells 0 false 1 (.cons (.sl true false yA) (.cons (.sl true true yB) (.cons (.sl true true yC) (.cons (.sl true false (.int .u64)) (.cons (.sl true false .str) .nil)))))) .nil))⟩]
def qv_o10 : List StSh := [⟨.ret, [4], (.cons .bool .nil), (.cons (.bcells 0 false 1 (.cons (.sl true false yA) (.cons (.sl true true yB) (.cons (.sl true true yC) (.cons (.sl true false (.int .u64)) (.cons (.sl true false .str) .nil)))))) (.cons (.bcells 0 false 1 (.cons (.sl true false yA) (.cons (.sl true true yB) (.cons (.sl true true yC) (.cons (.sl true false (.int .u64)) (.cons (.sl true false .str) .nil)))))) .nil))⟩, ⟨.exit 10, [], .nil, (.cons (.bcells 0 false 1 (.cons (.sl true false yA) (.cons (.sl true true yB) (.cons (.sl true true yC) (.cons (.sl true false (.int .u64)) (.cons (.sl true false .str) .nil)))))) (.cons (.bcells 0 false 1 (.cons (.sl true false yA) (.cons (.sl true true yB) (.cons (.sl true true yC) (.cons (.sl true false (.int .u64)) (.cons (.sl true false .str) .nil)))))) .nil))⟩]
def qv_L10 (n : Nat) : LEntry := ⟨qv_h10, qv_o10, qv_W10 n⟩
def qv_res : List StSh := [⟨.ret, [0], (.cons .bool .nil), .nil⟩]
def qv_tbl (n : Nat) : FuncId → List Entry := fun f => bif Nat.beq f 72 then [qbe_E n] else []
def qv_loops (n : Nat) : Nat → Option LEntry := fun f => bif Nat.beq f 0 then some (qv_L0 n) else bif Nat.beq f 4 then some (qv_L4 n) else bif Nat.beq f 2 then some (qv_L2 n) else bif Nat.beq f 6 then some (qv_L6 n) else bif Nat.beq f 8 then some (qv_L8 n) else bif Nat.beq f 10 then some (qv_L10 n) else none
theorem qv_r0 (n : Nat) (t5 : Int) (m0 : DG) (m0_1 : DH) (m0_2 : DI) (m0_3 : DC) (m0_4 : DD) (m1 : DG) (m1_1 : DH) (m1_2 : DI) (m1_3 : DC) (m1_4 : DD) : roundK (real _) tab (qv_tbl n) (qv_loops n) qv_an [] qv_l0 0 [2, 3, 5] qv_h0 qv_o0 (t5, ((m0, (m0_1, (m0_2, (m0_3, m0_4)))), (m1, (m1_1, (m1_2, (m1_3, m1_4)))))) some = qv_B0 n t5 m0 m0_1 m0_2 m0_3 m0_4 m1 m1_1 m1_2 m1_3 m1_4 := by kernel_rfl
theorem qv_f0 (n : Nat) : LoopFact tab (qv_tbl n) (qv_loops n) qv_an [] n 0 qv_l0 (qv_L0 n) := ⟨[2, 3, 5], (fun s => qv_B0 n s.1 s.2.1.1 s.2.1.2.1 s.2.1.2.2.1 s.2.1.2.2.2.1 s.2.1.2.2.2.2 s.2.2.1 s.2.2.2.1 s.2.2.2.2.1 s.2.2.2.2.2.1 s.2.2.2.2.2.2), by kernel_rfl, by kernel_rfl, fun s => rfl, fun s => qv_r0 n s.1 s.2.1.1 s.2.1.2.1 s.2.1.2.2.1 s.2.1.2.2.2.1 s.2.1.2.2.2.2 s.2.2.1 s.2.2.2.1 s.2.2.2.2.1 s.2.2.2.2.2.1 s.2.2.2.2.2.2⟩
theorem qv_r4 (n : Nat) (t6 : Int) (t9 : Int) (m0 : DG) (m0_1 : DH) (m0_2 : DI) (m0_3 : DC) (m0_4 : DD) (m1 : DG) (m1_1 : DH) (m1_2 : DI) (m1_3 : DC) (m1_4 : DD) (m2 : DA) (m2_1 : Int) (m2_2 : Int) (m2_3 : DA) (m2_4 : DB) (m3 : DA) (m3_1 : Int) (m3_2 : Int) (m3_3 : DA) (m3_4 : DB) : roundK (real _) tab (qv_tbl n) (qv_loops n) qv_an [] qv_l4 4 [2, 3, 6, 7, 8, 9] qv_h4 qv_o4 ((t6, t9), ((m0, (m0_1, (m0_2, (m0_3, m0_4)))), ((m1, (m1_1, (m1_2, (m1_3, m1_4)))), ((m2, (m2_1, (m2_2, (m2_3, m2_4)))), (m3, (m3_1, (m3_2, (m3_3, m3_4)))))))) some = qv_B4 n t6 t9 m0 m0_1 m0_2 m0_3 m0_4 m1 m1_1 m1_2 m1_3 m1_4 m2 m2_1 m2_2 m2_3 m2_4 m3 m3_1 m3_2 m3_3 m3_4 := by kernel_rfl
theorem qv_f4 (n : Nat) : LoopFact tab (qv_tbl n) (qv_loops n) qv_an [] n 4 qv_l4 (qv_L4 n) := ⟨[2, 3, 6, 7, 8, 9], (fun s => qv_B4 n s.1.1 s.1.2 s.2.1.1 s.2.1.2.1 s.2.1.2.2.1 s.2.1.2.2.2.1 s.2.1.2.2.2.2 s.2.2.1.1 s.2.2.1.2.1 s.2.2.1.2.2.1 s.2.2.1.2.2.2.1 s.2.2.1.2.2.2.2 s.2.2.2.1.1 s.2.2.2.1.2.1 s.2.2.2.1.2.2.1 s.2.2.2.1.2.2.2.1 s.2.2.2.1.2.2.2.2 s.2.2.2.2.1 s.2.2.2.2.2.1 s.2.2.2.2.2.2.1 s.2.2.2.2.2.2.2.1 s.2.2.2.2.2.2.2.2), by kernel_rfl, by kernel_rfl, fun s => rfl, fun s => qv_r4 n s.1.1 s.1.2 s.2.1.1 s.2.1.2.1 s.2.1.2.2.1 s.2.1.2.2.2.1 s.2.1.2.2.2.2 s.2.2.1.1 s.2.2.1.2.1 s.2.2.1.2.2.1 s.2.2.1.2.2.2.1 s.2.2.1.2.2.2.2 s.2.2.2.1.1 s.2.2.2.1.2.1 s.2.2.2.1.2.2.1 s.2.2.2.1.2.2.2.1 s.2.2.2.1.2.2.2.2 s.2.2.2.2.1 s.2.2.2.2.2.1 s.2.2.2.2.2.2.1 s.2.2.2.2.2.2.2.1 s.2.2.2.2.2.2.2.2⟩
theorem qv_r2 (n : Nat) (t6 : Int) (m0 : DG) (m0_1 : DH) (m0_2 : DI) (m0_3 : DC) (m0_4 : DD) (m1 : DG) (m1_1 : DH) (m1_2 : DI) (m1_3 : DC) (m1_4 : DD) : roundK (real _) tab (qv_tbl n) (qv_loops n) qv_an [] qv_l2 2 [2, 3, 6] qv_h2 qv_o2 (t6, ((m0, (m0_1, (m0_2, (m0_3, m0_4)))), (m1, (m1_1, (m1_2, (m1_3, m1_4)))))) some = qv_B2 n t6 m0 m0_1 m0_2 m0_3 m0_4 m1 m1_1 m1_2 m1_3 m1_4 := by kernel_rfl
theorem qv_f2 (n : Nat) : LoopFact tab (qv_tbl n) (qv_loops n) qv_an [] n 2 qv_l2 (qv_L2 n) := ⟨[2, 3, 6], (fun s => qv_B2 n s.1 s.2.1.1 s.2.1.2.1 s.2.1.2.2.1 s.2.1.2.2.2.1 s.2.1.2.2.2.2 s.2.2.1 s.2.2.2.1 s.2.2.2.2.1 s.2.2.2.2.2.1 s.2.2.2.2.2.2), by kernel_rfl, by kernel_rfl, fun s => rfl, fun s => qv_r2 n s.1 s.2.1.1 s.2.1.2.1 s.2.1.2.2.1 s.2.1.2.2.2.1 s.2.1.2.2.2.2 s.2.2.1 s.2.2.2.1 s.2.2.2.2.1 s.2.2.2.2.2.1 s.2.2.2.2.2.2⟩
theorem qv_r6 (n : Nat) (t10 : Int) (m0 : DG) (m0_1 : DH) (m0_2 : DI) (m0_3 : DC) (m0_4 : DD) (m1 : DG) (m1_1 : DH) (m1_2 : DI) (m1_3 : DC) (m1_4 : DD) : roundK (real _) tab (qv_tbl n) (qv_loops n) qv_an [] qv_l6 6 [2, 3, 10] qv_h6 qv_o6 (t10, ((m0, (m0_1, (m0_2, (m0_3, m0_4)))), (m1, (m1_1, (m1_2, (m1_3, m1_4)))))) some = qv_B6 n t10 m0 m0_1 m0_2 m0_3 m0_4 m1 m1_1 m1_2 m1_3 m1_4 := by kernel_rfl
theorem qv_f6 (n : Nat) : LoopFact tab (qv_tbl n) (qv_loops n) qv_an [] n 6 qv_l6 (qv_L6 n) := ⟨[2, 3, 10], (fun s => qv_B6 n s.1 s.2.1.1 s.2.1.2.1 s.2.1.2.2.1 s.2.1.2.2.2.1 s.2.1.2.2.2.2 s.2.2.1 s.2.2.2.1 s.2.2.2.2.1 s.2.2.2.2.2.1 s.2.2.2.2.2.2), by kernel_rfl, by kernel_rfl, fun s => rfl, fun s => qv_r6 n s.1 s.2.1.1 s.2.1.2.1 s.2.1.2.2.1 s.2.1.2.2.2.1 s.2.1.2.2.2.2 s.2.2.1 s.2.2.2.1 s.2.2.2.2.1 s.2.2.2.2.2.1 s.2.2.2.2.2.2⟩
theorem qv_r8 (n : Nat) (t11 : Int) (m0 : DG) (m0_1 : DH) (m0_2 : DI) (m0_3 : DC) (m0_4 : DD) (m1 : DG) (m1_1 : DH) (m1_2 : DI) (m1_3 : DC) (m1_4 : DD) : roundK (real _) tab (qv_tbl n) (qv_loops n) qv_an [] qv_l8 8 [2, 3, 11] qv_h8 qv_o8 (t11, ((m0, (m0_1, (m0_2, (m0_3, m0_4)))), (m1, (m1_1, (m1_2, (m1_3, m1_4)))))) some = qv_B8 n t11 m0 m0_1 m0_2 m0_3 m0_4 m1 m1_1 m1_2 m1_3 m1_4 := by kernel_rfl
theorem qv_f8 (n : Nat) : LoopFact tab (qv_tbl n) (qv_loops n) qv_an [] n 8 qv_l8 (qv_L8 n) := ⟨[2, 3, 11], (fun s => qv_B8 n s.1 s.2.1.1 s.2.1.2.1 s.2.1.2.2.1 s.2.1.2.2.2.1 s.2.1.2.2.2.2 s.2.2.1 s.2.2.2.1 s.2.2.2.2.1 s.2.2.2.2.2.1 s.2.2.2.2.2.2), by kernel_rfl, by kernel_rfl, fun s => rfl, fun s => qv_r8 n s.1 s.2.1.1 s.2.1.2.1 s.2.1.2.2.1 s.2.1.2.2.2.1 s.2.1.2.2.2.2 s.2.2.1 s.2.2.2.1 s.2.2.2.2.1 s.2.2.2.2.2.1 s.2.2.2.2.2.2⟩
theorem qv_r10 (n : Nat) (t12 : Int) (m0 : DG) (m0_1 : DH) (m0_2 : DI) (m0_3 : DC) (m0_4 : DD) (m1 : DG) (m1_1 : DH) (m1_2 : DI) (m1_3 : DC) (m1_4 : DD) : roundK (real _) tab (qv_tbl n) (qv_loops n) qv_an [] qv_l10 10 [2, 3, 12] qv_h10 qv_o10 (t12, ((m0, (m0_1, (m0_2, (m0_3, m0_4)))), (m1, (m1_1, (m1_2, (m1_3, m1_4)))))) some = qv_B10 n t12 m0 m0_1 m0_2 m0_3 m0_4 m1 m1_1 m1_2 m1_3 m1_4 := by kernel_rfl
theorem qv_f10 (n : Nat) : LoopFact tab (qv_tbl n) (qv_loops n) qv_an [] n 10 qv_l10 (qv_L10 n) := ⟨[2, 3, 12], (fun s => qv_B10 n s.1 s.2.1.1 s.2.1.2.1 s.2.1.2.2.1 s.2.1.2.2.2.1 s.2.1.2.2.2.2 s.2.2.1 s.2.2.2.1 s.2.2.2.2.1 s.2.2.2.2.2.1 s.2.2.2.2.2.2), by kernel_rfl, by kernel_rfl, fun s => rfl, fun s => qv_r10 n s.1 s.2.1.1 s.2.1.2.1 s.2.1.2.2.1 s.2.1.2.2.2.1 s.2.1.2.2.2.2 s.2.2.1 s.2.2.2.1 s.2.2.2.2.1 s.2.2.2.2.2.1 s.2.2.2.2.2.2⟩
theorem qv_run (n : Nat) (t0 : DG) (t0_1 : DH) (t0_2 : DI) (t0_3 : DC) (t0_4 : DD) (t1 : DG) (t1_1 : DH) (t1_2 : DI) (t1_3 : DC) (t1_4 : DD) : funDS (real _) tab (qv_tbl n) (qv_loops n) qv_an Try.f25 0 qv_a qv_res ((t0, (t0_1, (t0_2, (t0_3, t0_4)))), (t1, (t1_1, (t1_2, (t1_3, t1_4))))) some = qv n t0 t0_1 t0_2 t0_3 t0_4 t1 t1_1 t1_2 t1_3 t1_4 := by kernel_rfl
def qv_E (n : Nat) : Entry := ⟨qv_a, qv_res, fun d => qv n d.1.1 d.1.2.1 d.1.2.2.1 d.1.2.2.2.1 d.1.2.2.2.2 d.2.1 d.2.2.1 d.2.2.2.1 d.2.2.2.2.1 d.2.2.2.2.2⟩
theorem qv_ok (n : Nat) : EOK Try.prog 25 (qv_E n) :=
 EOK.ofS prog_names prog_mixed tab_ok (tbl := qv_tbl n) (loops := qv_loops n) (an := qv_an) (old := []) (n := n) (c := qv_c) (fn := Try.f25) (TblOK.cons (AllE.cons (qbe_ok n) AllE.nil) TblOK.nil) (by kernel_rfl) (by kernel_rfl) (by kernel_rfl) (by kernel_rfl) (fun d => by kernel_rfl) (LT.cons (by kernel_rfl) (qv_f0 n) (LT.cons (by kernel_rfl) (qv_f4 n) (LT.cons (by kernel_rfl) (qv_f2 n) (LT.cons (by kernel_rfl) (qv_f6 n) (LT.cons (by kernel_rfl) (qv_f8 n) (LT.cons (by kernel_rfl) (qv_f10 n) LT.nil)))))) (fun a => qv_run n a.1.1 a.1.2.1 a.1.2.2.1 a.1.2.2.2.1 a.1.2.2.2.2 a.2.1 a.2.2.1 a.2.2.2.1 a.2.2.2.2.1 a.2.2.2.2.2)
def law06ModuleReads_an : Ann := {}
def law06ModuleReads_c : Code := (match Try.f8.body with | some c => c | none => .skip)
def law06ModuleReads_a : StSh := ⟨.normal, [0], (.cons (.sl true false (.int .u8)) .nil), .nil⟩
def law06ModuleReads_res : List StSh := [⟨.ret, [0], (.cons .bool .nil), .nil⟩]
def law06ModuleReads_tbl (n : Nat) : FuncId → List Entry := fun f => bif Nat.beq f 19 then [qbg_E n] else bif Nat.beq f 23 then [qba_E n] else bif Nat.beq f 25 then [qv_E n] else bif Nat.beq f 21 then [qbh_E n] else bif Nat.beq f 24 then [qcd_E n] else []
def law06ModuleReads_loops (n : Nat) : Nat → Option LEntry := fun f => none
theorem law06ModuleReads_run (n : Nat) (b_0 : DC) : funDS (real _) tab (law06ModuleReads_tbl n) (law06ModuleReads_loops n) law06ModuleReads_an Try.f8 0 law06ModuleReads_a law06ModuleReads_res b_0 some = law06ModuleReads n b_0 := by kernel_rfl
def law06ModuleReads_E (n : Nat) : Entry := ⟨law06ModuleReads_a, law06ModuleReads_res, fun d => law06ModuleReads n d⟩
theorem law06ModuleReads_ok (n : Nat) : EOK Try.prog 8 (law06ModuleReads_E n) :=
 EOK.ofS prog_names prog_mixed tab_ok (tbl := law06ModuleReads_tbl n) (loops := law06ModuleReads_loops n) (an := law06ModuleReads_an) (old := []) (n := n) (c := law06ModuleReads_c) (fn := Try.f8) (TblOK.cons (AllE.cons (qbg_ok n) AllE.nil) (TblOK.cons (AllE.cons (qba_ok n) AllE.nil) (TblOK.cons (AllE.cons (qv_ok n) AllE.nil) (TblOK.cons (AllE.cons (qbh_ok n) AllE.nil) (TblOK.cons (AllE.cons (qcd_ok n) AllE.nil) TblOK.nil))))) (by kernel_rfl) (by kernel_rfl) (by kernel_rfl) (by kernel_rfl) (fun d => by kernel_rfl) LT.nil (fun a => law06ModuleReads_run n a)
end
end Sx
