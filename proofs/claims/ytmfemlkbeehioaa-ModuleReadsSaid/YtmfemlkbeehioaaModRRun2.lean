import Derived.Test.YtmfemlkbeehioaaProg
import Derived.Test.YtmfemlkbeehioaaLib32
import Derived.Test.YtmfemlkbeehioaaModRFixB
import Derived.KernelRfl
open Go Go.Ab Go.Proofs
set_option linter.unusedVariables false
set_option maxRecDepth 20000
namespace Sx
noncomputable section
def qcq_h0 : List StSh := [⟨.normal, [0, 2, 4, 6, 20, 21], (.cons (.ptr 0 0 0 0) (.cons (.ptr 1 0 0 0) (.cons (.int .i64) (.cons (.ptr 2 0 0 0) (.cons (.int .i64) (.cons (.int .i64) .nil)))))), (.cons (.bcells 0 false 1 (.cons (.sl false false (.int .u8)) (.cons .bool .nil))) (.cons (.bcells 0 false 1 (.cons (.int .i64) (.cons (.int .i64) (.cons (.int .i64) .nil)))) (.cons (.bcells 0 false 1 (.cons (.int .u64) (.cons (.int .u64) .nil))) .nil)))⟩]
def qcq_o0 : List StSh := [⟨.ret, [2, 3], (.cons (.ptr 1 0 0 0) (.cons .bool .nil)), (.cons (.bcells 0 false 1 (.cons (.sl false false (.int .u8)) (.cons .bool .nil))) (.cons (.bcells 0 false 1 (.cons (.int .i64) (.cons (.int .i64) (.cons (.int .i64) .nil)))) (.cons (.bcells 0 false 1 (.cons (.int .u64) (.cons (.int .u64) .nil))) .nil)))⟩, ⟨.exit 0, [2, 4, 6], (.cons (.ptr 1 0 0 0) (.cons (.int .i64) (.cons (.ptr 2 0 0 0) .nil))), (.cons (.bcells 0 false 1 (.cons (.sl false false (.int .u8)) (.cons .bool .nil))) (.cons (.bcells 0 false 1 (.cons (.int .i64) (.cons (.int .i64) (.cons (.int .i64) .nil)))) (.cons (.bcells 0 false 1 (.cons (.int .u64) (.cons (.int .u64) .nil))) .nil)))⟩]
def qcq_L0 (n : Nat) : LEntry := ⟨qcq_h0, qcq_o0, qcq_W0 n⟩
def qcq_res : List StSh := [⟨.ret, [0], (.cons (.tup (.cons (.agg (.cons (.int .i64) (.cons (.int .i64) (.cons (.int .i64) .nil)))) (.cons .bool .nil))) .nil), (.cons (.bcells 0 false 1 (.cons (.sl false false (.int .u8)) (.cons .bool .nil))) .nil)⟩]
def qcq_tbl (n : Nat) : FuncId → List Entry := fun f => bif Nat.beq f 67 then [qaj_E n] else bif Nat.beq f 116 then [qcl_E n] else bif Nat.beq f 104 then [qbe_E n] else bif Nat.beq f 56 then [qba_E n] else []
def qcq_loops (n : Nat) : Nat → Option LEntry := fun f => bif Nat.beq f 0 then some (qcq_L0 n) else none
theorem qcq_r0 (n : Nat) (op_4 : Int) (t20 : Int) (t21 : Int) (m0 : DC) (m0_1 : Bool) (m1 : Int) (m1_1 : Int) (m1_2 : Int) (m2 : Int) (m2_1 : Int) : roundK (real _) tab (qcq_tbl n) (qcq_loops n) qcq_an [some true] qcq_l0 0 [0, 2, 4, 6, 20, 21] qcq_h0 qcq_o0 ((op_4, (t20, t21)), ((m0, m0_1), ((m1, (m1_1, m1_2)), (m2, m2_1)))) some = qcq_B0 n op_4 t20 t21 m0 m0_1 m1 m1_1 m1_2 m2 m2_1 := by kernel_rfl
theorem qcq_f0 (n : Nat) : LoopFact tab (qcq_tbl n) (qcq_loops n) qcq_an [some true] n 0 qcq_l0 (qcq_L0 n) := ⟨[0, 2, 4, 6, 20, 21], (fun s => qcq_B0 n s.1.1 s.1.2.1 s.1.2.2 s.2.1.1 s.2.1.2 s.2.2.1.1 s.2.2.1.2.1 s.2.2.1.2.2 s.2.2.2.1 s.2.2.2.2), by kernel_rfl, by kernel_rfl, fun s => rfl, fun s => qcq_r0 n s.1.1 s.1.2.1 s.1.2.2 s.2.1.1 s.2.1.2 s.2.2.1.1 s.2.2.1.2.1 s.2.2.1.2.2 s.2.2.2.1 s.2.2.2.2⟩
theorem qcq_run (n : Nat) (m0 : DC) (m0_1 : Bool) : funDS (real _) tab (qcq_tbl n) (qcq_loops n) qcq_an Try.f118 1 qcq_a qcq_res (m0, m0_1) some = qcq n m0 m0_1 := by kernel_rfl
def qcq_E (n : Nat) : Entry := ⟨qcq_a, qcq_res, fun d => qcq n d.1 d.2⟩
theorem qcq_ok (n : Nat) : EOK Try.prog 118 (qcq_E n) :=
 EOK.ofS prog_names prog_mixed tab_ok (tbl := qcq_tbl n) (loops := qcq_loops n) (an := qcq_an) (old := [some true]) (n := n) (c := qcq_c) (fn := Try.f118) (TblOK.cons (AllE.cons (qaj_ok n) AllE.nil) (TblOK.cons (AllE.cons (qcl_ok n) AllE.nil) (TblOK.cons (AllE.cons (qbe_ok n) AllE.nil) (TblOK.cons (AllE.cons (qba_ok n) AllE.nil) TblOK.nil)))) (by kernel_rfl) (by kernel_rfl) (by kernel_rfl) (by kernel_rfl) (fun d => by kernel_rfl) (LT.cons (by kernel_rfl) (qcq_f0 n) LT.nil) (fun a => qcq_run n a.1 a.2)
def qm_res : List StSh := [⟨.ret, [0], (.cons (.agg (.cons (.int .i64) (.cons (.int .i64) (.cons (.int .i64) .nil)))) .nil), (.cons (.bcells 0 false 1 (.cons (.ptr 1 0 0 0) (.cons (.int .i64) (.cons .bool .nil)))) (.cons (.bcells 0 false 1 (.cons (.sl false false (.int .u8)) (.cons .bool .nil))) .nil))⟩]
def qm_tbl (n : Nat) : FuncId → List Entry := fun f => bif Nat.beq f 118 then [qcq_E n] else []
def qm_loops (n : Nat) : Nat → Option LEntry := fun f => none
theorem qm_run (n : Nat) (m0 : Int) (m0_1 : Bool) (m1 : DC) (m1_1 : Bool) : funDS (real _) tab (qm_tbl n) (qm_loops n) qm_an Try.f108 2 qm_a qm_res ((m0, m0_1), (m1, m1_1)) some = qm n m0 m0_1 m1 m1_1 := by kernel_rfl
def qm_E (n : Nat) : Entry := ⟨qm_a, qm_res, fun d => qm n d.1.1 d.1.2 d.2.1 d.2.2⟩
theorem qm_ok (n : Nat) : EOK Try.prog 108 (qm_E n) :=
 EOK.ofS prog_names prog_mixed tab_ok (tbl := qm_tbl n) (loops := qm_loops n) (an := qm_an) (old := [some true, some true]) (n := n) (c := qm_c) (fn := Try.f108) (TblOK.cons (AllE.cons (qcq_ok n) AllE.nil) TblOK.nil) (by kernel_rfl) (by kernel_rfl) (by kernel_rfl) (by kernel_rfl) (fun d => by kernel_rfl) LT.nil (fun a => qm_run n a.1.1 a.1.2 a.2.1 a.2.2)
def qg_h0 : List StSh := [⟨.normal, [0, 2, 7, 10, 11], (.cons (.ptr 0 0 0 0) (.cons (.fn 108 (.cons (.ptr 0 0 0 0) .nil) .nil) (.cons (.msw 2 0) (.cons (.int .i64) (.cons (.int .i64) .nil))))), (.cons (.bcells 0 false 1 (.cons (.ptr 1 0 0 0) (.cons (.int .i64) (.cons .bool .nil)))) (.cons (.bcells 0 false 1 (.cons (.sl false false (.int .u8)) (.cons .bool .nil))) (.cons (.bts 0 false false true yE) .nil)))⟩]
def qg_o0 : List StSh := [⟨.exit 0, [7], (.cons (.msw 2 0) .nil), (.cons (.bcells 0 false 1 (.cons (.ptr 1 0 0 0) (.cons (.int .i64) (.cons .bool .nil)))) (.cons (.bcells 0 false 1 (.cons (.sl false false (.int .u8)) (.cons .bool .nil))) (.cons (.bts 0 false false true yE) .nil)))⟩]
def qg_L0 (n : Nat) : LEntry := ⟨qg_h0, qg_o0, qg_W0 n⟩
def qg_res : List StSh := [⟨.ret, [0], (.cons (.sl false true yE) .nil), (.cons (.bcells 0 false 1 (.cons (.ptr 1 0 0 0) (.cons (.int .i64) (.cons .bool .nil)))) (.cons (.bcells 0 false 1 (.cons (.sl false false (.int .u8)) (.cons .bool .nil))) .nil))⟩]
def qg_tbl (n : Nat) : FuncId → List Entry := fun f => bif Nat.beq f 71 then [ql_E n] else bif Nat.beq f 108 then [qm_E n] else []
def qg_loops (n : Nat) : Nat → Option LEntry := fun f => bif Nat.beq f 0 then some (qg_L0 n) else none
theorem qg_r0 (n : Nat) (t10 : Int) (t11 : Int) (m0 : Int) (m0_1 : Bool) (m1 : DC) (m1_1 : Bool) (m2 : DB) : roundK (real _) tab (qg_tbl n) (qg_loops n) qg_an [some true, some true] qg_l0 0 [0, 2, 7, 10, 11] qg_h0 qg_o0 ((t10, t11), ((m0, m0_1), ((m1, m1_1), m2))) some = qg_B0 n t10 t11 m0 m0_1 m1 m1_1 m2 := by kernel_rfl
theorem qg_f0 (n : Nat) : LoopFact tab (qg_tbl n) (qg_loops n) qg_an [some true, some true] n 0 qg_l0 (qg_L0 n) := ⟨[0, 2, 7, 10, 11], (fun s => qg_B0 n s.1.1 s.1.2 s.2.1.1 s.2.1.2 s.2.2.1.1 s.2.2.1.2 s.2.2.2), by kernel_rfl, by kernel_rfl, fun s => rfl, fun s => qg_r0 n s.1.1 s.1.2 s.2.1.1 s.2.1.2 s.2.2.1.1 s.2.2.1.2 s.2.2.2⟩
theorem qg_run (n : Nat) (most_1 : Int) (m0 : Int) (m0_1 : Bool) (m1 : DC) (m1_1 : Bool) : funDS (real _) tab (qg_tbl n) (qg_loops n) qg_an Try.f107 2 qg_a qg_res (most_1, ((m0, m0_1), (m1, m1_1))) some = qg n most_1 m0 m0_1 m1 m1_1 := by kernel_rfl
def qg_E (n : Nat) : Entry := ⟨qg_a, qg_res, fun d => qg n d.1 d.2.1.1 d.2.1.2 d.2.2.1 d.2.2.2⟩
theorem qg_ok (n : Nat) : EOK Try.prog 107 (qg_E n) :=
 EOK.ofS prog_names prog_mixed tab_ok (tbl := qg_tbl n) (loops := qg_loops n) (an := qg_an) (old := [some true, some true]) (n := n) (c := qg_c) (fn := Try.f107) (TblOK.cons (AllE.cons (ql_ok n) AllE.nil) (TblOK.cons (AllE.cons (qm_ok n) AllE.nil) TblOK.nil)) (by kernel_rfl) (by kernel_rfl) (by kernel_rfl) (by kernel_rfl) (fun d => by kernel_rfl) (LT.cons (by kernel_rfl) (qg_f0 n) LT.nil) (fun a => qg_run n a.1 a.2.1.1 a.2.1.2 a.2.2.1 a.2.2.2)
def qa_res : List StSh := [⟨.ret, [0], (.cons (.agg (.cons (.sl false true yD) (.cons (.int .i64) (.cons (.int .i64) (.cons (.sl false true yD) (.cons (.sl false true yE) .nil)))))) .nil), (.cons (.bcells 0 false 1 (.cons (.ptr 1 0 0 0) (.cons (.int .i64) (.cons .bool .nil)))) (.cons (.bcells 0 false 1 (.cons (.sl false false (.int .u8)) (.cons .bool .nil))) .nil))⟩]
def qa_tbl (n : Nat) : FuncId → List Entry := fun f => bif Nat.beq f 59 then [qb_E n] else bif Nat.beq f 60 then [qaa_E n] else bif Nat.beq f 107 then [qg_E n] else []
def qa_loops (n : Nat) : Nat → Option LEntry := fun f => none
theorem qa_run (n : Nat) (m0 : Int) (m0_1 : Bool) (m1 : DC) (m1_1 : Bool) : funDS (real _) tab (qa_tbl n) (qa_loops n) qa_an Try.f62 2 qa_a qa_res ((m0, m0_1), (m1, m1_1)) some = qa n m0 m0_1 m1 m1_1 := by kernel_rfl
def qa_E (n : Nat) : Entry := ⟨qa_a, qa_res, fun d => qa n d.1.1 d.1.2 d.2.1 d.2.2⟩
theorem qa_ok (n : Nat) : EOK Try.prog 62 (qa_E n) :=
 EOK.ofS prog_names prog_mixed tab_ok (tbl := qa_tbl n) (loops := qa_loops n) (an := qa_an) (old := [some true, some true]) (n := n) (c := qa_c) (fn := Try.f62) (TblOK.cons (AllE.cons (qb_ok n) AllE.nil) (TblOK.cons (AllE.cons (qaa_ok n) AllE.nil) (TblOK.cons (AllE.cons (qg_ok n) AllE.nil) TblOK.nil))) (by kernel_rfl) (by kernel_rfl) (by kernel_rfl) (by kernel_rfl) (fun d => by kernel_rfl) LT.nil (fun a => qa_run n a.1.1 a.1.2 a.2.1 a.2.2)
def qk_h0 : List StSh := [⟨.normal, [0, 2, 7, 10, 11], (.cons (.ptr 0 0 0 0) (.cons (.fn 62 (.cons (.ptr 0 0 0 0) .nil) .nil) (.cons (.msw 2 0) (.cons (.int .i64) (.cons (.int .i64) .nil))))), (.cons (.bcells 0 false 1 (.cons (.ptr 1 0 0 0) (.cons (.int .i64) (.cons .bool .nil)))) (.cons (.bcells 0 false 1 (.cons (.sl false false (.int .u8)) (.cons .bool .nil))) (.cons (.bts 0 false false true yB) .nil)))⟩]
def qk_o0 : List StSh := [⟨.exit 0, [7], (.cons (.msw 2 0) .nil), (.cons (.bcells 0 false 1 (.cons (.ptr 1 0 0 0) (.cons (.int .i64) (.cons .bool .nil)))) (.cons (.bcells 0 false 1 (.cons (.sl false false (.int .u8)) (.cons .bool .nil))) (.cons (.bts 0 false false true yB) .nil)))⟩]
def qk_L0 (n : Nat) : LEntry := ⟨qk_h0, qk_o0, qk_W0 n⟩
def qk_res : List StSh := [⟨.ret, [0], (.cons (.sl false true yB) .nil), (.cons (.bcells 0 false 1 (.cons (.ptr 1 0 0 0) (.cons (.int .i64) (.cons .bool .nil)))) (.cons (.bcells 0 false 1 (.cons (.sl false false (.int .u8)) (.cons .bool .nil))) .nil))⟩]
def qk_tbl (n : Nat) : FuncId → List Entry := fun f => bif Nat.beq f 71 then [ql_E n] else bif Nat.beq f 62 then [qa_E n] else []
def qk_loops (n : Nat) : Nat → Option LEntry := fun f => bif Nat.beq f 0 then some (qk_L0 n) else none
theorem qk_r0 (n : Nat) (t10 : Int) (t11 : Int) (m0 : Int) (m0_1 : Bool) (m1 : DC) (m1_1 : Bool) (m2 : DH) : roundK (real _) tab (qk_tbl n) (qk_loops n) qk_an [some true, some true] qk_l0 0 [0, 2, 7, 10, 11] qk_h0 qk_o0 ((t10, t11), ((m0, m0_1), ((m1, m1_1), m2))) some = qk_B0 n t10 t11 m0 m0_1 m1 m1_1 m2 := by kernel_rfl
theorem qk_f0 (n : Nat) : LoopFact tab (qk_tbl n) (qk_loops n) qk_an [some true, some true] n 0 qk_l0 (qk_L0 n) := ⟨[0, 2, 7, 10, 11], (fun s => qk_B0 n s.1.1 s.1.2 s.2.1.1 s.2.1.2 s.2.2.1.1 s.2.2.1.2 s.2.2.2), by kernel_rfl, by kernel_rfl, fun s => rfl, fun s => qk_r0 n s.1.1 s.1.2 s.2.1.1 s.2.1.2 s.2.2.1.1 s.2.2.1.2 s.2.2.2⟩
theorem qk_run (n : Nat) (most_1 : Int) (m0 : Int) (m0_1 : Bool) (m1 : DC) (m1_1 : Bool) : funDS (real _) tab (qk_tbl n) (qk_loops n) qk_an Try.f61 2 qk_a qk_res (most_1, ((m0, m0_1), (m1, m1_1))) some = qk n most_1 m0 m0_1 m1 m1_1 := by kernel_rfl
def qk_E (n : Nat) : Entry := ⟨qk_a, qk_res, fun d => qk n d.1 d.2.1.1 d.2.1.2 d.2.2.1 d.2.2.2⟩
theorem qk_ok (n : Nat) : EOK Try.prog 61 (qk_E n) :=
 EOK.ofS prog_names prog_mixed tab_ok (tbl := qk_tbl n) (loops := qk_loops n) (an := qk_an) (old := [some true, some true]) (n := n) (c := qk_c) (fn := Try.f61) (TblOK.cons (AllE.cons (ql_ok n) AllE.nil) (TblOK.cons (AllE.cons (qa_ok n) AllE.nil) TblOK.nil)) (by kernel_rfl) (by kernel_rfl) (by kernel_rfl) (by kernel_rfl) (fun d => by kernel_rfl) (LT.cons (by kernel_rfl) (qk_f0 n) LT.nil) (fun a => qk_run n a.1 a.2.1.1 a.2.1.2 a.2.2.1 a.2.2.2)
def qaf_an : Ann := {}
def qaf_c : Code := (match Try.f54.body with | some c => c | none => .skip)
def qaf_a : StSh := ⟨.normal, [0, 1, 2], (.cons (.int .i64) (.cons (.ptr 0 0 0 0) (.cons (.ptr 1 0 0 0) .nil))), (.cons (.bcells 0 false 1 (.cons (.sl false false yF) .nil)) (.cons (.bcells 0 false 1 (.cons (.sl false false yA) (.cons (.sl false true yB) (.cons .nilS (.cons .nilS (.cons .nilS .nil)))))) .nil))⟩
def qaf_res : List StSh := [⟨.ret, [0], (.cons (.ptr 2 0 0 0) .nil), (.cons (.bcells 0 false 1 (.cons (.sl false false yF) .nil)) (.cons (.bcells 0 false 1 (.cons (.sl false false yA) (.cons (.sl false true yB) (.cons .nilS (.cons .nilS (.cons .nilS .nil)))))) (.cons (.bcells 0 false 1 (.cons (.ptr 3 0 0 0) (.cons (.int .i64) (.cons .bool .nil)))) (.cons (.bcells 0 false 1 (.cons (.sl false false (.int .u8)) (.cons .bool .nil))) .nil))))⟩]
def qaf_tbl (n : Nat) : FuncId → List Entry := fun f => bif Nat.beq f 55 then [qbb_E n] else []
def qaf_loops (n : Nat) : Nat → Option LEntry := fun f => none
theorem qaf_run (n : Nat) (k_0 : Int) (m0 : DJ) (m1 : DG) (m1_1 : DH) : funDS (real _) tab (qaf_tbl n) (qaf_loops n) qaf_an Try.f54 2 qaf_a qaf_res (k_0, (m0, (m1, m1_1))) some = qaf n k_0 m0 m1 m1_1 := by kernel_rfl
def qaf_E (n : Nat) : Entry := ⟨qaf_a, qaf_res, fun d => qaf n d.1 d.2.1 d.2.2.1 d.2.2.2⟩
theorem qaf_ok (n : Nat) : EOK Try.prog 54 (qaf_E n) :=
 EOK.ofS prog_names prog_mixed tab_ok (tbl := qaf_tbl n) (loops := qaf_loops n) (an := qaf_an) (old := [some true, some true]) (n := n) (c := qaf_c) (fn := Try.f54) (TblOK.cons (AllE.cons (qbb_ok n) AllE.nil) TblOK.nil) (by kernel_rfl) (by kernel_rfl) (by kernel_rfl) (by kernel_rfl) (fun d => by kernel_rfl) LT.nil (fun a => qaf_run n a.1 a.2.1 a.2.2.1 a.2.2.2)
def qc_an : Ann := { live := [(0, [0, 2, 7, 10, 11])], boxed := [(1, 0), (5, 4)] }
def qc_c : Code := (match Try.f63.body with | some c => c | none => .skip)
def qc_l0 : Code := (match assoc 0 (loopsIn qc_c 0) with | some c => c | none => .skip)
def qc_a : StSh := ⟨.normal, [0, 1, 2], (.cons (.ptr 0 0 0 0) (.cons (.int .i64) (.cons (.fn 64 (.cons (.ptr 0 0 0 0) .nil) .nil) .nil))), (.cons (.bcells 0 false 1 (.cons (.ptr 1 0 0 0) (.cons (.int .i64) (.cons .bool .nil)))) (.cons (.bcells 0 false 1 (.cons (.sl false false (.int .u8)) (.cons .bool .nil))) .nil))⟩
def qs_an : Ann := {}
def qs_c : Code := (match Try.f64.body with | some c => c | none => .skip)
def qs_a : StSh := ⟨.normal, [0], (.cons (.ptr 0 0 0 0) .nil), (.cons (.bcells 0 false 1 (.cons (.ptr 1 0 0 0) (.cons (.int .i64) (.cons .bool .nil)))) (.cons (.bcells 0 false 1 (.cons (.sl false false (.int .u8)) (.cons .bool .nil))) .nil))⟩
def qs_res : List StSh := [⟨.ret, [0], (.cons (.agg (.cons (.sl false true yD) (.cons (.int .i64) (.cons (.int .i64) .nil)))) .nil), (.cons (.bcells 0 false 1 (.cons (.ptr 1 0 0 0) (.cons (.int .i64) (.cons .bool .nil)))) (.cons (.bcells 0 false 1 (.cons (.sl false false (.int .u8)) (.cons .bool .nil))) .nil))⟩]
def qs_tbl (n : Nat) : FuncId → List Entry := fun f => bif Nat.beq f 59 then [qb_E n] else bif Nat.beq f 60 then [qaa_E n] else []
def qs_loops (n : Nat) : Nat → Option LEntry := fun f => none
theorem qs_run (n : Nat) (m0 : Int) (m0_1 : Bool) (m1 : DC) (m1_1 : Bool) : funDS (real _) tab (qs_tbl n) (qs_loops n) qs_an Try.f64 2 qs_a qs_res ((m0, m0_1), (m1, m1_1)) some = qs n m0 m0_1 m1 m1_1 := by kernel_rfl
def qs_E (n : Nat) : Entry := ⟨qs_a, qs_res, fun d => qs n d.1.1 d.1.2 d.2.1 d.2.2⟩
theorem qs_ok (n : Nat) : EOK Try.prog 64 (qs_E n) :=
 EOK.ofS prog_names prog_mixed tab_ok (tbl := qs_tbl n) (loops := qs_loops n) (an := qs_an) (old := [some true, some true]) (n := n) (c := qs_c) (fn := Try.f64) (TblOK.cons (AllE.cons (qb_ok n) AllE.nil) (TblOK.cons (AllE.cons (qaa_ok n) AllE.nil) TblOK.nil)) (by kernel_rfl) (by kernel_rfl) (by kernel_rfl) (by kernel_rfl) (fun d => by kernel_rfl) LT.nil (fun a => qs_run n a.1.1 a.1.2 a.2.1 a.2.2)
def qc_h0 : List StSh := [⟨.normal, [0, 2, 7, 10, 11], (.cons (.ptr 0 0 0 0) (.cons (.fn 64 (.cons (.ptr 0 0 0 0) .nil) .nil) (.cons (.msw 2 0) (.cons (.int .i64) (.cons (.int .i64) .nil))))), (.cons (.bcells 0 false 1 (.cons (.ptr 1 0 0 0) (.cons (.int .i64) (.cons .bool .nil)))) (.cons (.bcells 0 false 1 (.cons (.sl false false (.int .u8)) (.cons .bool .nil))) (.cons (.bts 0 false false true yC) .nil)))⟩]
def qc_o0 : List StSh := [⟨.exit 0, [7], (.cons (.msw 2 0) .nil), (.cons (.bcells 0 false 1 (.cons (.ptr 1 0 0 0) (.cons (.int .i64) (.cons .bool .nil)))) (.cons (.bcells 0 false 1 (.cons (.sl false false (.int .u8)) (.cons .bool .nil))) (.cons (.bts 0 false false true yC) .nil)))⟩]
def qc_L0 (n : Nat) : LEntry := ⟨qc_h0, qc_o0, qc_W0 n⟩
def qc_res : List StSh := [⟨.ret, [0], (.cons (.sl false true yC) .nil), (.cons (.bcells 0 false 1 (.cons (.ptr 1 0 0 0) (.cons (.int .i64) (.cons .bool .nil)))) (.cons (.bcells 0 false 1 (.cons (.sl false false (.int .u8)) (.cons .bool .nil))) .nil))⟩]
def qc_tbl (n : Nat) : FuncId → List Entry := fun f => bif Nat.beq f 71 then [ql_E n] else bif Nat.beq f 64 then [qs_E n] else []
def qc_loops (n : Nat) : Nat → Option LEntry := fun f => bif Nat.beq f 0 then some (qc_L0 n) else none
theorem qc_r0 (n : Nat) (t10 : Int) (t11 : Int) (m0 : Int) (m0_1 : Bool) (m1 : DC) (m1_1 : Bool) (m2 : DI) : roundK (real _) tab (qc_tbl n) (qc_loops n) qc_an [some true, some true] qc_l0 0 [0, 2, 7, 10, 11] qc_h0 qc_o0 ((t10, t11), ((m0, m0_1), ((m1, m1_1), m2))) some = qc_B0 n t10 t11 m0 m0_1 m1 m1_1 m2 := by kernel_rfl
theorem qc_f0 (n : Nat) : LoopFact tab (qc_tbl n) (qc_loops n) qc_an [some true, some true] n 0 qc_l0 (qc_L0 n) := ⟨[0, 2, 7, 10, 11], (fun s => qc_B0 n s.1.1 s.1.2 s.2.1.1 s.2.1.2 s.2.2.1.1 s.2.2.1.2 s.2.2.2), by kernel_rfl, by kernel_rfl, fun s => rfl, fun s => qc_r0 n s.1.1 s.1.2 s.2.1.1 s.2.1.2 s.2.2.1.1 s.2.2.1.2 s.2.2.2⟩
theorem qc_run (n : Nat) (most_1 : Int) (m0 : Int) (m0_1 : Bool) (m1 : DC) (m1_1 : Bool) : funDS (real _) tab (qc_tbl n) (qc_loops n) qc_an Try.f63 2 qc_a qc_res (most_1, ((m0, m0_1), (m1, m1_1))) some = qc n most_1 m0 m0_1 m1 m1_1 := by kernel_rfl
def qc_E (n : Nat) : Entry := ⟨qc_a, qc_res, fun d => qc n d.1 d.2.1.1 d.2.1.2 d.2.2.1 d.2.2.2⟩
theorem qc_ok (n : Nat) : EOK Try.prog 63 (qc_E n) :=
 EOK.ofS prog_names prog_mixed tab_ok (tbl := qc_tbl n) (loops := qc_loops n) (an := qc_an) (old := [some true, some true]) (n := n) (c := qc_c) (fn := Try.f63) (TblOK.cons (AllE.cons (ql_ok n) AllE.nil) (TblOK.cons (AllE.cons (qs_ok n) AllE.nil) TblOK.nil)) (by kernel_rfl) (by kernel_rfl) (by kernel_rfl) (by kernel_rfl) (fun d => by kernel_rfl) (LT.cons (by kernel_rfl) (qc_f0 n) LT.nil) (fun a => qc_run n a.1 a.2.1.1 a.2.1.2 a.2.2.1 a.2.2.2)
def qad_an : Ann := {}
def qad_c : Code := (match Try.f54.body with | some c => c | none => .skip)
def qad_a : StSh := ⟨.normal, [0, 1, 2], (.cons (.int .i64) (.cons (.ptr 0 0 0 0) (.cons (.ptr 1 0 0 0) .nil))), (.cons (.bcells 0 false 1 (.cons (.sl false false yF) .nil)) (.cons (.bcells 0 false 1 (.cons (.sl false false yA) (.cons (.sl false true yB) (.cons (.sl false true yC) (.cons .nilS (.cons .nilS .nil)))))) .nil))⟩
def qad_res : List StSh := [⟨.ret, [0], (.cons (.ptr 2 0 0 0) .nil), (.cons (.bcells 0 false 1 (.cons (.sl false false yF) .nil)) (.cons (.bcells 0 false 1 (.cons (.sl false false yA) (.cons (.sl false true yB) (.cons (.sl false true yC) (.cons .nilS (.cons .nilS .nil)))))) (.cons (.bcells 0 false 1 (.cons (.ptr 3 0 0 0) (.cons (.int .i64) (.cons .bool .nil)))) (.cons (.bcells 0 false 1 (.cons (.sl false false (.int .u8)) (.cons .bool .nil))) .nil))))⟩]
def qad_tbl (n : Nat) : FuncId → List Entry := fun f => bif Nat.beq f 55 then [qbb_E n] else []
def qad_loops (n : Nat) : Nat → Option LEntry := fun f => none
theorem qad_run (n : Nat) (k_0 : Int) (m0 : DJ) (m1 : DG) (m1_1 : DH) (m1_2 : DI) : funDS (real _) tab (qad_tbl n) (qad_loops n) qad_an Try.f54 2 qad_a qad_res (k_0, (m0, (m1, (m1_1, m1_2)))) some = qad n k_0 m0 m1 m1_1 m1_2 := by kernel_rfl
def qad_E (n : Nat) : Entry := ⟨qad_a, qad_res, fun d => qad n d.1 d.2.1 d.2.2.1 d.2.2.2.1 d.2.2.2.2⟩
theorem qad_ok (n : Nat) : EOK Try.prog 54 (qad_E n) :=
 EOK.ofS prog_names prog_mixed tab_ok (tbl := qad_tbl n) (loops := qad_loops n) (an := qad_an) (old := [some true, some true]) (n := n) (c := qad_c) (fn := Try.f54) (TblOK.cons (AllE.cons (qbb_ok n) AllE.nil) TblOK.nil) (by kernel_rfl) (by kernel_rfl) (by kernel_rfl) (by kernel_rfl) (fun d => by kernel_rfl) LT.nil (fun a => qad_run n a.1 a.2.1 a.2.2.1 a.2.2.2.1 a.2.2.2.2)
def qt_an : Ann := { live := [(0, [0, 2, 7, 10, 11])], boxed := [(1, 0), (5, 4)] }
def qt_c : Code := (match Try.f65.body with | some c => c | none => .skip)
def qt_l0 : Code := (match assoc 0 (loopsIn qt_c 0) with | some c => c | none => .skip)
def qt_a : StSh := ⟨.normal, [0, 1, 2], (.cons (.ptr 0 0 0 0) (.cons (.int .i64) (.cons (.fn 66 .nil (.cons (.ptr 1 0 0 0) .nil)) .nil))), (.cons (.bcells 0 false 1 (.cons (.ptr 2 0 0 0) (.cons (.int .i64) (.cons .bool .nil)))) (.cons (.bcells 0 false 1 (.cons (.ptr 0 0 0 0) .nil)) (.cons (.bcells 0 false 1 (.cons (.sl false false (.int .u8)) (.cons .bool .nil))) .nil)))⟩
def qan_an : Ann := {}
def qan_c : Code := (match Try.f66.body with | some c => c | none => .skip)
def qan_a : StSh := ⟨.normal, [0], (.cons (.ptr 0 0 0 0) .nil), (.cons (.bcells 0 false 1 (.cons (.ptr 1 0 0 0) .nil)) (.cons (.bcells 0 false 1 (.cons (.ptr 2 0 0 0) (.cons (.int .i64) (.cons .bool .nil)))) (.cons (.bcells 0 false 1 (.cons (.sl false false (.int .u8)) (.cons .bool .nil))) .nil)))⟩
def qan_res : List StSh := [⟨.ret, [0], (.cons (.int .u64) .nil), (.cons (.bcells 0 false 1 (.cons (.ptr 1 0 0 0) .nil)) (.cons (.bcells 0 false 1 (.cons (.ptr 2 0 0 0) (.cons (.int .i64) (.cons .bool .nil)))) (.cons (.bcells 0 false 1 (.cons (.sl false false (.int .u8)) (.cons .bool .nil))) .nil)))⟩]
def qan_tbl (n : Nat) : FuncId → List Entry := fun f => bif Nat.beq f 67 then [qaj_E n] else []
def qan_loops (n : Nat) : Nat → Option LEntry := fun f => none
theorem qan_run (n : Nat) (m1 : Int) (m1_1 : Bool) (m2 : DC) (m2_1 : Bool) : funDS (real _) tab (qan_tbl n) (qan_loops n) qan_an Try.f66 3 qan_a qan_res ((m1, m1_1), (m2, m2_1)) some = qan n m1 m1_1 m2 m2_1 := by kernel_rfl
def qan_E (n : Nat) : Entry := ⟨qan_a, qan_res, fun d => qan n d.1.1 d.1.2 d.2.1 d.2.2⟩
theorem qan_ok (n : Nat) : EOK Try.prog 66 (qan_E n) :=
 EOK.ofS prog_names prog_mixed tab_ok (tbl := qan_tbl n) (loops := qan_loops n) (an := qan_an) (old := [some true, some true, some true]) (n := n) (c := qan_c) (fn := Try.f66) (TblOK.cons (AllE.cons (qaj_ok n) AllE.nil) TblOK.nil) (by kernel_rfl) (by kernel_rfl) (by kernel_rfl) (by kernel_rfl) (fun d => by kernel_rfl) LT.nil (fun a => qan_run n a.1.1 a.1.2 a.2.1 a.2.2)
def qt_h0 : List StSh := [⟨.normal, [0, 2, 7, 10, 11], (.cons (.ptr 0 0 0 0) (.cons (.fn 66 .nil (.cons (.ptr 1 0 0 0) .nil)) (.cons (.msw 3 0) (.cons (.int .i64) (.cons (.int .i64) .nil))))), (.cons (.bcells 0 false 1 (.cons (.ptr 2 0 0 0) (.cons (.int .i64) (.cons .bool .nil)))) (.cons (.bcells 0 false 1 (.cons (.ptr 0 0 0 0) .nil)) (.cons (.bcells 0 false 1 (.cons (.sl false false (.int .u8)) (.cons .bool .nil))) (.cons (.bts 0 false false false (.int .u64)) .nil))))⟩]
def qt_o0 : List StSh := [⟨.exit 0, [7], (.cons (.msw 3 0) .nil), (.cons (.bcells 0 false 1 (.cons (.ptr 2 0 0 0) (.cons (.int .i64) (.cons .bool .nil)))) (.cons (.bcells 0 false 1 (.cons (.ptr 0 0 0 0) .nil)) (.cons (.bcells 0 false 1 (.cons (.sl false false (.int .u8)) (.cons .bool .nil))) (.cons (.bts 0 false false false (.int .u64)) .nil))))⟩]
def qt_L0 (n : Nat) : LEntry := ⟨qt_h0, qt_o0, qt_W0 n⟩
def qt_res : List StSh := [⟨.ret, [0], (.cons (.sl false false (.int .u64)) .nil), (.cons (.bcells 0 false 1 (.cons (.ptr 2 0 0 0) (.cons (.int .i64) (.cons .bool .nil)))) (.cons (.bcells 0 false 1 (.cons (.ptr 0 0 0 0) .nil)) (.cons (.bcells 0 false 1 (.cons (.sl false false (.int .u8)) (.cons .bool .nil))) .nil)))⟩]
def qt_tbl (n : Nat) : FuncId → List Entry := fun f => bif Nat.beq f 71 then [ql_E n] else bif Nat.beq f 66 then [qan_E n] else []
def qt_loops (n : Nat) : Nat → Option LEntry := fun f => bif Nat.beq f 0 then some (qt_L0 n) else none
theorem qt_r0 (n : Nat) (t10 : Int) (t11 : Int) (m0 : Int) (m0_1 : Bool) (m2 : DC) (m2_1 : Bool) (m3 : DC) : roundK (real _) tab (qt_tbl n) (qt_loops n) qt_an [some true, some true, some true] qt_l0 0 [0, 2, 7, 10, 11] qt_h0 qt_o0 ((t10, t11), ((m0, m0_1), ((m2, m2_1), m3))) some = qt_B0 n t10 t11 m0 m0_1 m2 m2_1 m3 := by kernel_rfl
theorem qt_f0 (n : Nat) : LoopFact tab (qt_tbl n) (qt_loops n) qt_an [some true, some true, some true] n 0 qt_l0 (qt_L0 n) := ⟨[0, 2, 7, 10, 11], (fun s => qt_B0 n s.1.1 s.1.2 s.2.1.1 s.2.1.2 s.2.2.1.1 s.2.2.1.2 s.2.2.2), by kernel_rfl, by kernel_rfl, fun s => rfl, fun s => qt_r0 n s.1.1 s.1.2 s.2.1.1 s.2.1.2 s.2.2.1.1 s.2.2.1.2 s.2.2.2⟩
theorem qt_run (n : Nat) (most_1 : Int) (m0 : Int) (m0_1 : Bool) (m2 : DC) (m2_1 : Bool) : funDS (real _) tab (qt_tbl n) (qt_loops n) qt_an Try.f65 3 qt_a qt_res (most_1, ((m0, m0_1), (m2, m2_1))) some = qt n most_1 m0 m0_1 m2 m2_1 := by kernel_rfl
def qt_E (n : Nat) : Entry := ⟨qt_a, qt_res, fun d => qt n d.1 d.2.1.1 d.2.1.2 d.2.2.1 d.2.2.2⟩
theorem qt_ok (n : Nat) : EOK Try.prog 65 (qt_E n) :=
 EOK.ofS prog_names prog_mixed tab_ok (tbl := qt_tbl n) (loops := qt_loops n) (an := qt_an) (old := [some true, some true, some true]) (n := n) (c := qt_c) (fn := Try.f65) (TblOK.cons (AllE.cons (ql_ok n) AllE.nil) (TblOK.cons (AllE.cons (qan_ok n) AllE.nil) TblOK.nil)) (by kernel_rfl) (by kernel_rfl) (by kernel_rfl) (by kernel_rfl) (fun d => by kernel_rfl) (LT.cons (by kernel_rfl) (qt_f0 n) LT.nil) (fun a => qt_run n a.1 a.2.1.1 a.2.1.2 a.2.2.1 a.2.2.2)
def qy_an : Ann := {}
def qy_c : Code := (match Try.f54.body with | some c => c | none => .skip)
def qy_a : StSh := ⟨.normal, [0, 1, 2], (.cons (.int .i64) (.cons (.ptr 0 0 0 0) (.cons (.ptr 1 0 0 0) .nil))), (.cons (.bcells 0 false 1 (.cons (.sl false false yF) .nil)) (.cons (.bcells 0 false 1 (.cons (.sl false false yA) (.cons (.sl false true yB) (.cons (.sl false true yC) (.cons (.sl false false (.int .u64)) (.cons .nilS .nil)))))) .nil))⟩
def qy_res : List StSh := [⟨.ret, [0], (.cons (.ptr 2 0 0 0) .nil), (.cons (.bcells 0 false 1 (.cons (.sl false false yF) .nil)) (.cons (.bcells 0 false 1 (.cons (.sl false false yA) (.cons (.sl false true yB) (.cons (.sl false true yC) (.cons (.sl false false (.int .u64)) (.cons .nilS .nil)))))) (.cons (.bcells 0 false 1 (.cons (.ptr 3 0 0 0) (.cons (.int .i64) (.cons .bool .nil)))) (.cons (.bcells 0 false 1 (.cons (.sl false false (.int .u8)) (.cons .bool .nil))) .nil))))⟩]
def qy_tbl (n : Nat) : FuncId → List Entry := fun f => bif Nat.beq f 55 then [qbb_E n] else []
def qy_loops (n : Nat) : Nat → Option LEntry := fun f => none
theorem qy_run (n : Nat) (k_0 : Int) (m0 : DJ) (m1 : DG) (m1_1 : DH) (m1_2 : DI) (m1_3 : DC) : funDS (real _) tab (qy_tbl n) (qy_loops n) qy_an Try.f54 2 qy_a qy_res (k_0, (m0, (m1, (m1_1, (m1_2, m1_3))))) some = qy n k_0 m0 m1 m1_1 m1_2 m1_3 := by kernel_rfl
def qy_E (n : Nat) : Entry := ⟨qy_a, qy_res, fun d => qy n d.1 d.2.1 d.2.2.1 d.2.2.2.1 d.2.2.2.2.1 d.2.2.2.2.2⟩
theorem qy_ok (n : Nat) : EOK Try.prog 54 (qy_E n) :=
 EOK.ofS prog_names prog_mixed tab_ok (tbl := qy_tbl n) (loops := qy_loops n) (an := qy_an) (old := [some true, some true]) (n := n) (c := qy_c) (fn := Try.f54) (TblOK.cons (AllE.cons (qbb_ok n) AllE.nil) TblOK.nil) (by kernel_rfl) (by kernel_rfl) (by kernel_rfl) (by kernel_rfl) (fun d => by kernel_rfl) LT.nil (fun a => qy_run n a.1 a.2.1 a.2.2.1 a.2.2.2.1 a.2.2.2.2.1 a.2.2.2.2.2)
def qr_an : Ann := { live := [(0, [0, 2, 7, 10, 11])], boxed := [(1, 0), (5, 4)] }
def qr_c : Code := (match Try.f68.body with | some c => c | none => .skip)
def qr_l0 : Code := (match assoc 0 (loopsIn qr_c 0) with | some c => c | none => .skip)
def qr_a : StSh := ⟨.normal, [0, 1, 2], (.cons (.ptr 0 0 0 0) (.cons (.int .i64) (.cons (.fn 69 .nil (.cons (.ptr 1 0 0 0) .nil)) .nil))), (.cons (.bcells 0 false 1 (.cons (.ptr 2 0 0 0) (.cons (.int .i64) (.cons .bool .nil)))) (.cons (.bcells 0 false 1 (.cons (.ptr 0 0 0 0) .nil)) (.cons (.bcells 0 false 1 (.cons (.sl false false (.int .u8)) (.cons .bool .nil))) .nil)))⟩
def qau_an : Ann := {}
def qau_c : Code := (match Try.f69.body with | some c => c | none => .skip)
def qau_a : StSh := ⟨.normal, [0], (.cons (.ptr 0 0 0 0) .nil), (.cons (.bcells 0 false 1 (.cons (.ptr 1 0 0 0) .nil)) (.cons (.bcells 0 false 1 (.cons (.ptr 2 0 0 0) (.cons (.int .i64) (.cons .bool .nil)))) (.cons (.bcells 0 false 1 (.cons (.sl false false (.int .u8)) (.cons .bool .nil))) .nil)))⟩
def qau_res : List StSh := [⟨.ret, [0], (.cons .str .nil), (.cons (.bcells 0 false 1 (.cons (.ptr 1 0 0 0) .nil)) (.cons (.bcells 0 false 1 (.cons (.ptr 2 0 0 0) (.cons (.int .i64) (.cons .bool .nil)))) (.cons (.bcells 0 false 1 (.cons (.sl false false (.int .u8)) (.cons .bool .nil))) .nil)))⟩]
def qau_tbl (n : Nat) : FuncId → List Entry := fun f => bif Nat.beq f 71 then [ql_E n] else bif Nat.beq f 70 then [qas_E n] else []
def qau_loops (n : Nat) : Nat → Option LEntry := fun f => none
theorem qau_run (n : Nat) (m1 : Int) (m1_1 : Bool) (m2 : DC) (m2_1 : Bool) : funDS (real _) tab (qau_tbl n) (qau_loops n) qau_an Try.f69 3 qau_a qau_res ((m1, m1_1), (m2, m2_1)) some = qau n m1 m1_1 m2 m2_1 := by kernel_rfl
def qau_E (n : Nat) : Entry := ⟨qau_a, qau_res, fun d => qau n d.1.1 d.1.2 d.2.1 d.2.2⟩
theorem qau_ok (n : Nat) : EOK Try.prog 69 (qau_E n) :=
 EOK.ofS prog_names prog_mixed tab_ok (tbl := qau_tbl n) (loops := qau_loops n) (an := qau_an) (old := [some true, some true, some true]) (n := n) (c := qau_c) (fn := Try.f69) (TblOK.cons (AllE.cons (ql_ok n) AllE.nil) (TblOK.cons (AllE.cons (qas_ok n) AllE.nil) TblOK.nil)) (by kernel_rfl) (by kernel_rfl) (by kernel_rfl) (by kernel_rfl) (fun d => by kernel_rfl) LT.nil (fun a => qau_run n a.1.1 a.1.2 a.2.1 a.2.2)
def qr_h0 : List StSh := [⟨.normal, [0, 2, 7, 10, 11], (.cons (.ptr 0 0 0 0) (.cons (.fn 69 .nil (.cons (.ptr 1 0 0 0) .nil)) (.cons (.msw 3 0) (.cons (.int .i64) (.cons (.int .i64) .nil))))), (.cons (.bcells 0 false 1 (.cons (.ptr 2 0 0 0) (.cons (.int .i64) (.cons .bool .nil)))) (.cons (.bcells 0 false 1 (.cons (.ptr 0 0 0 0) .nil)) (.cons (.bcells 0 false 1 (.cons (.sl false false (.int .u8)) (.cons .bool .nil))) (.cons (.bts 0 false false false .str) .nil))))⟩]
def qr_o0 : List StSh := [⟨.exit 0, [7], (.cons (.msw 3 0) .nil), (.cons (.bcells 0 false 1 (.cons (.ptr 2 0 0 0) (.cons (.int .i64) (.cons .bool .nil)))) (.cons (.bcells 0 false 1 (.cons (.ptr 0 0 0 0) .nil)) (.cons (.bcells 0 false 1 (.cons (.sl false false (.int .u8)) (.cons .bool .nil))) (.cons (.bts 0 false false false .str) .nil))))⟩]
def qr_L0 (n : Nat) : LEntry := ⟨qr_h0, qr_o0, qr_W0 n⟩
def qr_res : List StSh := [⟨.ret, [0], (.cons (.sl false false .str) .nil), (.cons (.bcells 0 false 1 (.cons (.ptr 2 0 0 0) (.cons (.int .i64) (.cons .bool .nil)))) (.cons (.bcells 0 false 1 (.cons (.ptr 0 0 0 0) .nil)) (.cons (.bcells 0 false 1 (.cons (.sl false false (.int .u8)) (.cons .bool .nil))) .nil)))⟩]
def qr_tbl (n : Nat) : FuncId → List Entry := fun f => bif Nat.beq f 71 then [ql_E n] else bif Nat.beq f 69 then [qau_E n] else []
def qr_loops (n : Nat) : Nat → Option LEntry := fun f => bif Nat.beq f 0 then some (qr_L0 n) else none
theorem qr_r0 (n : Nat) (t10 : Int) (t11 : Int) (m0 : Int) (m0_1 : Bool) (m2 : DC) (m2_1 : Bool) (m3 : DD) : roundK (real _) tab (qr_tbl n) (qr_loops n) qr_an [some true, some true, some true] qr_l0 0 [0, 2, 7, 10, 11] qr_h0 qr_o0 ((t10, t11), ((m0, m0_1), ((m2, m2_1), m3))) some = qr_B0 n t10 t11 m0 m0_1 m2 m2_1 m3 := by kernel_rfl
theorem qr_f0 (n : Nat) : LoopFact tab (qr_tbl n) (qr_loops n) qr_an [some true, some true, some true] n 0 qr_l0 (qr_L0 n) := ⟨[0, 2, 7, 10, 11], (fun s => qr_B0 n s.1.1 s.1.2 s.2.1.1 s.2.1.2 s.2.2.1.1 s.2.2.1.2 s.2.2.2), by kernel_rfl, by kernel_rfl, fun s => rfl, fun s => qr_r0 n s.1.1 s.1.2 s.2.1.1 s.2.1.2 s.2.2.1.1 s.2.2.1.2 s.2.2.2⟩
theorem qr_run (n : Nat) (most_1 : Int) (m0 : Int) (m0_1 : Bool) (m2 : DC) (m2_1 : Bool) : funDS (real _) tab (qr_tbl n) (qr_loops n) qr_an Try.f68 3 qr_a qr_res (most_1, ((m0, m0_1), (m2, m2_1))) some = qr n most_1 m0 m0_1 m2 m2_1 := by kernel_rfl
def qr_E (n : Nat) : Entry := ⟨qr_a, qr_res, fun d => qr n d.1 d.2.1.1 d.2.1.2 d.2.2.1 d.2.2.2⟩
theorem qr_ok (n : Nat) : EOK Try.prog 68 (qr_E n) :=
 EOK.ofS prog_names prog_mixed tab_ok (tbl := qr_tbl n) (loops := qr_loops n) (an := qr_an) (old := [some true, some true, some true]) (n := n) (c := qr_c) (fn := Try.f68) (TblOK.cons (AllE.cons (ql_ok n) AllE.nil) (TblOK.cons (AllE.cons (qau_ok n) AllE.nil) TblOK.nil)) (by kernel_rfl) (by kernel_rfl) (by kernel_rfl) (by kernel_rfl) (fun d => by kernel_rfl) (LT.cons (by kernel_rfl) (qr_f0 n) LT.nil) (fun a => qr_run n a.1 a.2.1.1 a.2.1.2 a.2.2.1 a.2.2.2)
def qbf_res : List StSh := [⟨.ret, [0], (.cons (.tup (.cons (.agg (.cons (.sl false false yA) (.cons (.sl false true yB) (.cons (.sl false true yC) (.cons (.sl false false (.int .u64)) (.cons (.sl false false .str) .nil)))))) (.cons (.int .i64) .nil))) .nil), .nil⟩]
def qbf_tbl (n : Nat) : FuncId → List Entry := fun f => bif Nat.beq f 53 then [qca_E n] else bif Nat.beq f 54 then [qav_E n, qac_E n, qaf_E n, qad_E n, qy_E n] else bif Nat.beq f 55 then [qbb_E n] else bif Nat.beq f 56 then [qba_E n] else bif Nat.beq f 57 then [qo_E n] else bif Nat.beq f 61 then [qk_E n] else bif Nat.beq f 63 then [qc_E n] else bif Nat.beq f 65 then [qt_E n] else bif Nat.beq f 68 then [qr_E n] else bif Nat.beq f 20 then [qbc_E n] else []
def qbf_loops (n : Nat) : Nat → Option LEntry := fun f => none
theorem qbf_run (n : Nat) (t0 : DC) : funDS (real _) tab (qbf_tbl n) (qbf_loops n) qbf_an Try.f23 0 qbf_a qbf_res t0 some = qbf n t0 := by kernel_rfl
def qbf_E (n : Nat) : Entry := ⟨qbf_a, qbf_res, fun d => qbf n d⟩
theorem qbf_ok (n : Nat) : EOK Try.prog 23 (qbf_E n) :=
 EOK.ofS prog_names prog_mixed tab_ok (tbl := qbf_tbl n) (loops := qbf_loops n) (an := qbf_an) (old := []) (n := n) (c := qbf_c) (fn := Try.f23) (TblOK.cons (AllE.cons (qca_ok n) AllE.nil) (TblOK.cons (AllE.cons (qav_ok n) (AllE.cons (qac_ok n) (AllE.cons (qaf_ok n) (AllE.cons (qad_ok n) (AllE.cons (qy_ok n) AllE.nil))))) (TblOK.cons (AllE.cons (qbb_ok n) AllE.nil) (TblOK.cons (AllE.cons (qba_ok n) AllE.nil) (TblOK.cons (AllE.cons (qo_ok n) AllE.nil) (TblOK.cons (AllE.cons (qk_ok n) AllE.nil) (TblOK.cons (AllE.cons (qc_ok n) AllE.nil) (TblOK.cons (AllE.cons (qt_ok n) AllE.nil) (TblOK.cons (AllE.cons (qr_ok n) AllE.nil) (TblOK.cons (AllE.cons (qbc_ok n) AllE.nil) TblOK.nil)))))))))) (by kernel_rfl) (by kernel_rfl) (by kernel_rfl) (by kernel_rfl) (fun d => by kernel_rfl) LT.nil (fun a => qbf_run n a)
def qby_an : Ann := {}
def qby_c : Code := (match Try.f27.body with | some c => c | none => .skip)
def qby_a : StSh := ⟨.normal, [0, 1], (.cons (.agg (.cons (.sl true false yA) (.cons (.sl true true yB) (.cons (.sl true true yC) (.cons (.sl true false (.int .u64)) (.cons (.sl true false .str) .nil)))))) (.cons (.agg (.cons (.sl true false yA) (.cons (.sl true true yB) (.cons (.sl true true yC) (.cons (.sl true false (.int .u64)) (.cons (.sl true false .str) .nil)))))) .nil)), .nil⟩
def qaq_an : Ann := { live := [(0, [1, 2, 15, 16, 17])] }
def qaq_c : Code := (match Try.f73.body with | some c => c | none => .skip)
def qaq_l0 : Code := (match assoc 0 (loopsIn qaq_c 0) with | some c => c | none => .skip)
def qaq_a : StSh := ⟨.normal, [0, 1, 2], (.cons (.sl true false yA) (.cons (.sl true false yA) (.cons (.fn 74 .nil .nil) .nil))), .nil⟩
def qcc_an : Ann := { live := [(0, [0, 1, 12, 13])] }
def qcc_c : Code := (match Try.f74.body with | some c => c | none => .skip)
def qcc_l0 : Code := (match assoc 0 (loopsIn qcc_c 0) with | some c => c | none => .skip)
def qcc_a : StSh := ⟨.normal, [0, 1], (.cons (.sl true true yD) (.cons (.sl true true yD) .nil)), .nil⟩
def qcc_h0 : List StSh := [⟨.normal, [0, 1, 12, 13], (.cons (.sl true true yD) (.cons (.sl true true yD) (.cons (.int .i64) (.cons (.int .i64) .nil)))), .nil⟩]
def qcc_o0 : List StSh := [⟨.ret, [4], (.cons .bool .nil), .nil⟩, ⟨.exit 0, [], .nil, .nil⟩]
def qcc_L0 (n : Nat) : LEntry := ⟨qcc_h0, qcc_o0, qcc_W0 n⟩
def qcc_res : List StSh := [⟨.ret, [0], (.cons .bool .nil), .nil⟩]
def qcc_tbl (n : Nat) : FuncId → List Entry := fun f => []
def qcc_loops (n : Nat) : Nat → Option LEntry := fun f => bif Nat.beq f 0 then some (qcc_L0 n) else none
theorem qcc_r0 (n : Nat) (s1_0 : DA) (s2_1 : DA) (t12 : Int) (t13 : Int) : roundK (real _) tab (qcc_tbl n) (qcc_loops n) qcc_an [] qcc_l0 0 [0, 1, 12, 13] qcc_h0 qcc_o0 (s1_0, (s2_1, (t12, t13))) some = qcc_B0 n s1_0 s2_1 t12 t13 := by kernel_rfl
theorem qcc_f0 (n : Nat) : LoopFact tab (qcc_tbl n) (qcc_loops n) qcc_an [] n 0 qcc_l0 (qcc_L0 n) := ⟨[0, 1, 12, 13], (fun s => qcc_B0 n s.1 s.2.1 s.2.2.1 s.2.2.2), by kernel_rfl, by kernel_rfl, fun s => rfl, fun s => qcc_r0 n s.1 s.2.1 s.2.2.1 s.2.2.2⟩
theorem qcc_run (n : Nat) (s1_0 : DA) (s2_1 : DA) : funDS (real _) tab (qcc_tbl n) (qcc_loops n) qcc_an Try.f74 0 qcc_a qcc_res (s1_0, s2_1) some = qcc n s1_0 s2_1 := by kernel_rfl
def qcc_E (n : Nat) : Entry := ⟨qcc_a, qcc_res, fun d => qcc n d.1 d.2⟩
theorem qcc_ok (n : Nat) : EOK Try.prog 74 (qcc_E n) :=
 EOK.ofS prog_names prog_mixed tab_ok (tbl := qcc_tbl n) (loops := qcc_loops n) (an := qcc_an) (old := []) (n := n) (c := qcc_c) (fn := Try.f74) TblOK.nil (by kernel_rfl) (by kernel_rfl) (by kernel_rfl) (by kernel_rfl) (fun d => by kernel_rfl) (LT.cons (by kernel_rfl) (qcc_f0 n) LT.nil) (fun a => qcc_run n a.1 a.2)
def qaq_h0 : List StSh := [⟨.normal, [1, 2, 15, 16, 17], (.cons (.sl true false yA) (.cons (.fn 74 .nil .nil) (.cons (.sl true false yA) (.cons (.int .i64) (.cons (.int .i64) .nil))))), .nil⟩]
def qaq_o0 : List StSh := [⟨.ret, [6], (.cons .bool .nil), .nil⟩, ⟨.exit 0, [], .nil, .nil⟩]
def qaq_L0 (n : Nat) : LEntry := ⟨qaq_h0, qaq_o0, qaq_W0 n⟩
def qaq_res : List StSh := [⟨.ret, [0], (.cons .bool .nil), .nil⟩]
def qaq_tbl (n : Nat) : FuncId → List Entry := fun f => bif Nat.beq f 74 then [qcc_E n] else []
def qaq_loops (n : Nat) : Nat → Option LEntry := fun f => bif Nat.beq f 0 then some (qaq_L0 n) else none
theorem qaq_r0 (n : Nat) (s2_1 : DG) (t15 : DG) (t16 : Int) (t17 : Int) : roundK (real _) tab (qaq_tbl n) (qaq_loops n) qaq_an [] qaq_l0 0 [1, 2, 15, 16, 17] qaq_h0 qaq_o0 (s2_1, (t15, (t16, t17))) some = qaq_B0 n s2_1 t15 t16 t17 := by kernel_rfl
theorem qaq_f0 (n : Nat) : LoopFact tab (qaq_tbl n) (qaq_loops n) qaq_an [] n 0 qaq_l0 (qaq_L0 n) := ⟨[1, 2, 15, 16, 17], (fun s => qaq_B0 n s.1 s.2.1 s.2.2.1 s.2.2.2), by kernel_rfl, by kernel_rfl, fun s => rfl, fun s => qaq_r0 n s.1 s.2.1 s.2.2.1 s.2.2.2⟩
theorem qaq_run (n : Nat) (s1_0 : DG) (s2_1 : DG) : funDS (real _) tab (qaq_tbl n) (qaq_loops n) qaq_an Try.f73 0 qaq_a qaq_res (s1_0, s2_1) some = qaq n s1_0 s2_1 := by kernel_rfl
def qaq_E (n : Nat) : Entry := ⟨qaq_a, qaq_res, fun d => qaq n d.1 d.2⟩
theorem qaq_ok (n : Nat) : EOK Try.prog 73 (qaq_E n) :=
 EOK.ofS prog_names prog_mixed tab_ok (tbl := qaq_tbl n) (loops := qaq_loops n) (an := qaq_an) (old := []) (n := n) (c := qaq_c) (fn := Try.f73) (TblOK.cons (AllE.cons (qcc_ok n) AllE.nil) TblOK.nil) (by kernel_rfl) (by kernel_rfl) (by kernel_rfl) (by kernel_rfl) (fun d => by kernel_rfl) (LT.cons (by kernel_rfl) (qaq_f0 n) LT.nil) (fun a => qaq_run n a.1 a.2)
def qao_an : Ann := { live := [(0, [1, 2, 15, 16, 17])] }
def qao_c : Code := (match Try.f75.body with | some c => c | none => .skip)
def qao_l0 : Code := (match assoc 0 (loopsIn qao_c 0) with | some c => c | none => .skip)
def qao_a : StSh := ⟨.normal, [0, 1, 2], (.cons (.sl true true yB) (.cons (.sl true true yB) (.cons (.fn 76 .nil .nil) .nil))), .nil⟩
def qag_an : Ann := {}
def qag_c : Code := (match Try.f76.body with | some c => c | none => .skip)
def qag_a : StSh := ⟨.normal, [0, 1], (.cons (.agg (.cons (.sl true true yD) (.cons (.int .i64) (.cons (.int .i64) (.cons (.sl true true yD) (.cons (.sl true true yE) .nil)))))) (.cons (.agg (.cons (.sl true true yD) (.cons (.int .i64) (.cons (.int .i64) (.cons (.sl true true yD) (.cons (.sl true true yE) .nil)))))) .nil)), .nil⟩
def qbs_an : Ann := { live := [(0, [0, 1, 12, 13])] }
def qbs_c : Code := (match Try.f110.body with | some c => c | none => .skip)
def qbs_l0 : Code := (match assoc 0 (loopsIn qbs_c 0) with | some c => c | none => .skip)
def qbs_a : StSh := ⟨.normal, [0, 1], (.cons (.sl true true yE) (.cons (.sl true true yE) .nil)), .nil⟩
def qbs_h0 : List StSh := [⟨.normal, [0, 1, 12, 13], (.cons (.sl true true yE) (.cons (.sl true true yE) (.cons (.int .i64) (.cons (.int .i64) .nil)))), .nil⟩]
def qbs_o0 : List StSh := [⟨.ret, [4], (.cons .bool .nil), .nil⟩, ⟨.exit 0, [], .nil, .nil⟩]
def qbs_L0 (n : Nat) : LEntry := ⟨qbs_h0, qbs_o0, qbs_W0 n⟩
def qbs_res : List StSh := [⟨.ret, [0], (.cons .bool .nil), .nil⟩]
def qbs_tbl (n : Nat) : FuncId → List Entry := fun f => []
def qbs_loops (n : Nat) : Nat → Option LEntry := fun f => bif Nat.beq f 0 then some (qbs_L0 n) else none
theorem qbs_r0 (n : Nat) (s1_0 : DB) (s2_1 : DB) (t12 : Int) (t13 : Int) : roundK (real _) tab (qbs_tbl n) (qbs_loops n) qbs_an [] qbs_l0 0 [0, 1, 12, 13] qbs_h0 qbs_o0 (s1_0, (s2_1, (t12, t13))) some = qbs_B0 n s1_0 s2_1 t12 t13 := by kernel_rfl
theorem qbs_f0 (n : Nat) : LoopFact tab (qbs_tbl n) (qbs_loops n) qbs_an [] n 0 qbs_l0 (qbs_L0 n) := ⟨[0, 1, 12, 13], (fun s => qbs_B0 n s.1 s.2.1 s.2.2.1 s.2.2.2), by kernel_rfl, by kernel_rfl, fun s => rfl, fun s => qbs_r0 n s.1 s.2.1 s.2.2.1 s.2.2.2⟩
theorem qbs_run (n : Nat) (s1_0 : DB) (s2_1 : DB) : funDS (real _) tab (qbs_tbl n) (qbs_loops n) qbs_an Try.f110 0 qbs_a qbs_res (s1_0, s2_1) some = qbs n s1_0 s2_1 := by kernel_rfl
def qbs_E (n : Nat) : Entry := ⟨qbs_a, qbs_res, fun d => qbs n d.1 d.2⟩
theorem qbs_ok (n : Nat) : EOK Try.prog 110 (qbs_E n) :=
 EOK.ofS prog_names prog_mixed tab_ok (tbl := qbs_tbl n) (loops := qbs_loops n) (an := qbs_an) (old := []) (n := n) (c := qbs_c) (fn := Try.f110) TblOK.nil (by kernel_rfl) (by kernel_rfl) (by kernel_rfl) (by kernel_rfl) (fun d => by kernel_rfl) (LT.cons (by kernel_rfl) (qbs_f0 n) LT.nil) (fun a => qbs_run n a.1 a.2)
def qag_res : List StSh := [⟨.ret, [0], (.cons .bool .nil), .nil⟩]
def qag_tbl (n : Nat) : FuncId → List Entry := fun f => bif Nat.beq f 74 then [qcc_E n] else bif Nat.beq f 110 then [qbs_E n] else []
def qag_loops (n : Nat) : Nat → Option LEntry := fun f => none
theorem qag_run (n : Nat) (a_0 : DA) (a_0_1 : Int) (a_0_2 : Int) (a_0_3 : DA) (a_0_4 : DB) (b_1 : DA) (b_1_1 : Int) (b_1_2 : Int) (b_1_3 : DA) (b_1_4 : DB) : funDS (real _) tab (qag_tbl n) (qag_loops n) qag_an Try.f76 0 qag_a qag_res ((a_0, (a_0_1, (a_0_2, (a_0_3, a_0_4)))), (b_1, (b_1_1, (b_1_2, (b_1_3, b_1_4))))) some = qag n a_0 a_0_1 a_0_2 a_0_3 a_0_4 b_1 b_1_1 b_1_2 b_1_3 b_1_4 := by kernel_rfl
def qag_E (n : Nat) : Entry := ⟨qag_a, qag_res, fun d => qag n d.1.1 d.1.2.1 d.1.2.2.1 d.1.2.2.2.1 d.1.2.2.2.2 d.2.1 d.2.2.1 d.2.2.2.1 d.2.2.2.2.1 d.2.2.2.2.2⟩
theorem qag_ok (n : Nat) : EOK Try.prog 76 (qag_E n) :=
 EOK.ofS prog_names prog_mixed tab_ok (tbl := qag_tbl n) (loops := qag_loops n) (an := qag_an) (old := []) (n := n) (c := qag_c) (fn := Try.f76) (TblOK.cons (AllE.cons (qcc_ok n) AllE.nil) (TblOK.cons (AllE.cons (qbs_ok n) AllE.nil) TblOK.nil)) (by kernel_rfl) (by kernel_rfl) (by kernel_rfl) (by kernel_rfl) (fun d => by kernel_rfl) LT.nil (fun a => qag_run n a.1.1 a.1.2.1 a.1.2.2.1 a.1.2.2.2.1 a.1.2.2.2.2 a.2.1 a.2.2.1 a.2.2.2.1 a.2.2.2.2.1 a.2.2.2.2.2)
def qao_h0 : List StSh := [⟨.normal, [1, 2, 15, 16, 17], (.cons (.sl true true yB) (.cons (.fn 76 .nil .nil) (.cons (.sl true true yB) (.cons (.int .i64) (.cons (.int .i64) .nil))))), .nil⟩]
def qao_o0 : List StSh := [⟨.ret, [6], (.cons .bool .nil), (.cons (.bcells 0 false 1 (.cons (.sl true true yD) (.cons (.int .i64) (.cons (.int .i64) (.cons (.sl true true yD) (.cons (.sl true true yE) .nil)))))) (.cons (.bcells 0 false 1 (.cons (.sl true true yD) (.cons (.int .i64) (.cons (.int .i64) (.cons (.sl true true yD) (.cons (.sl true true yE) .nil)))))) .nil))⟩, ⟨.exit 0, [], .nil, .nil⟩]
def qao_L0 (n : Nat) : LEntry := ⟨qao_h0, qao_o0, qao_W0 n⟩
def qao_res : List StSh := [⟨.ret, [0], (.cons .bool .nil), .nil⟩]
def qao_tbl (n : Nat) : FuncId → List Entry := fun f => bif Nat.beq f 76 then [qag_E n] else []
def qao_loops (n : Nat) : Nat → Option LEntry := fun f => bif Nat.beq f 0 then some (qao_L0 n) else none
theorem qao_r0 (n : Nat) (s2_1 : DH) (t15 : DH) (t16 : Int) (t17 : Int) : roundK (real _) tab (qao_tbl n) (qao_loops n) qao_an [] qao_l0 0 [1, 2, 15, 16, 17] qao_h0 qao_o0 (s2_1, (t15, (t16, t17))) some = qao_B0 n s2_1 t15 t16 t17 := by kernel_rfl
theorem qao_f0 (n : Nat) : LoopFact tab (qao_tbl n) (qao_loops n) qao_an [] n 0 qao_l0 (qao_L0 n) := ⟨[1, 2, 15, 16, 17], (fun s => qao_B0 n s.1 s.2.1 s.2.2.1 s.2.2.2), by kernel_rfl, by kernel_rfl, fun s => rfl, fun s => qao_r0 n s.1 s.2.1 s.2.2.1 s.2.2.2⟩
theorem qao_run (n : Nat) (s1_0 : DH) (s2_1 : DH) : funDS (real _) tab (qao_tbl n) (qao_loops n) qao_an Try.f75 0 qao_a qao_res (s1_0, s2_1) some = qao n s1_0 s2_1 := by kernel_rfl
def qao_E (n : Nat) : Entry := ⟨qao_a, qao_res, fun d => qao n d.1 d.2⟩
theorem qao_ok (n : Nat) : EOK Try.prog 75 (qao_E n) :=
 EOK.ofS prog_names prog_mixed tab_ok (tbl := qao_tbl n) (loops := qao_loops n) (an := qao_an) (old := []) (n := n) (c := qao_c) (fn := Try.f75) (TblOK.cons (AllE.cons (qag_ok n) AllE.nil) TblOK.nil) (by kernel_rfl) (by kernel_rfl) (by kernel_rfl) (by kernel_rfl) (fun d => by kernel_rfl) (LT.cons (by kernel_rfl) (qao_f0 n) LT.nil) (fun a => qao_run n a.1 a.2)
def qah_an : Ann := { live := [(0, [1, 2, 15, 16, 17])] }
def qah_c : Code := (match Try.f77.body with | some c => c | none => .skip)
def qah_l0 : Code := (match assoc 0 (loopsIn qah_c 0) with | some c => c | none => .skip)
def qah_a : StSh := ⟨.normal, [0, 1, 2], (.cons (.sl true true yC) (.cons (.sl true true yC) (.cons (.fn 78 .nil .nil) .nil))), .nil⟩
def qn_an : Ann := {}
def qn_c : Code := (match Try.f78.body with | some c => c | none => .skip)
def qn_a : StSh := ⟨.normal, [0, 1], (.cons (.agg (.cons (.sl true true yD) (.cons (.int .i64) (.cons (.int .i64) .nil)))) (.cons (.agg (.cons (.sl true true yD) (.cons (.int .i64) (.cons (.int .i64) .nil)))) .nil)), .nil⟩
def qn_res : List StSh := [⟨.ret, [0], (.cons .bool .nil), .nil⟩]
def qn_tbl (n : Nat) : FuncId → List Entry := fun f => bif Nat.beq f 74 then [qcc_E n] else []
def qn_loops (n : Nat) : Nat → Option LEntry := fun f => none
theorem qn_run (n : Nat) (a_0 : DA) (a_0_1 : Int) (a_0_2 : Int) (b_1 : DA) (b_1_1 : Int) (b_1_2 : Int) : funDS (real _) tab (qn_tbl n) (qn_loops n) qn_an Try.f78 0 qn_a qn_res ((a_0, (a_0_1, a_0_2)), (b_1, (b_1_1, b_1_2))) some = qn n a_0 a_0_1 a_0_2 b_1 b_1_1 b_1_2 := by kernel_rfl
def qn_E (n : Nat) : Entry := ⟨qn_a, qn_res, fun d => qn n d.1.1 d.1.2.1 d.1.2.2 d.2.1 d.2.2.1 d.2.2.2⟩
theorem qn_ok (n : Nat) : EOK Try.prog 78 (qn_E n) :=
 EOK.ofS prog_names prog_mixed tab_ok (tbl := qn_tbl n) (loops := qn_loops n) (an := qn_an) (old := []) (n := n) (c := qn_c) (fn := Try.f78) (TblOK.cons (AllE.cons (qcc_ok n) AllE.nil) TblOK.nil) (by kernel_rfl) (by kernel_rfl) (by kernel_rfl) (by kernel_rfl) (fun d => by kernel_rfl) LT.nil (fun a => qn_run n a.1.1 a.1.2.1 a.1.2.2 a.2.1 a.2.2.1 a.2.2.2)
def qah_h0 : List StSh := [⟨.normal, [1, 2, 15, 16, 17], (.cons (.sl true true yC) (.cons (.fn 78 .nil .nil) (.cons (.sl true true yC) (.cons (.int .i64) (.cons (.int .i64) .nil))))), .nil⟩]
def qah_o0 : List StSh := [⟨.ret, [6], (.cons .bool .nil), (.cons (.bcells 0 false 1 (.cons (.sl true true yD) (.cons (.int .i64) (.cons (.int .i64) .nil)))) (.cons (.bcells 0 false 1 (.cons (.sl true true yD) (.cons (.int .i64) (.cons (.int .i64) .nil)))) .nil))⟩, ⟨.exit 0, [], .nil, .nil⟩]
def qah_L0 (n : Nat) : LEntry := ⟨qah_h0, qah_o0, qah_W0 n⟩
def qah_res : List StSh := [⟨.ret, [0], (.cons .bool .nil), .nil⟩]
def qah_tbl (n : Nat) : FuncId → List Entry := fun f => bif Nat.beq f 78 then [qn_E n] else []
def qah_loops (n : Nat) : Nat → Option LEntry := fun f => bif Nat.beq f 0 then some (qah_L0 n) else none
theorem qah_r0 (n : Nat) (s2_1 : DI) (t15 : DI) (t16 : Int) (t17 : Int) : roundK (real _) tab (qah_tbl n) (qah_loops n) qah_an [] qah_l0 0 [1, 2, 15, 16, 17] qah_h0 qah_o0 (s2_1, (t15, (t16, t17))) some = qah_B0 n s2_1 t15 t16 t17 := by kernel_rfl
theorem qah_f0 (n : Nat) : LoopFact tab (qah_tbl n) (qah_loops n) qah_an [] n 0 qah_l0 (qah_L0 n) := ⟨[1, 2, 15, 16, 17], (fun s => qah_B0 n s.1 s.2.1 s.2.2.1 s.2.2.2), by kernel_rfl, by kernel_rfl, fun s => rfl, fun s => qah_r0 n s.1 s.2.1 s.2.2.1 s.2.2.2⟩
theorem qah_run (n : Nat) (s1_0 : DI) (s2_1 : DI) : funDS (real _) tab (qah_tbl n) (qah_loops n) qah_an Try.f77 0 qah_a qah_res (s1_0, s2_1) some = qah n s1_0 s2_1 := by kernel_rfl
def qah_E (n : Nat) : Entry := ⟨qah_a, qah_res, fun d => qah n d.1 d.2⟩
theorem qah_ok (n : Nat) : EOK Try.prog 77 (qah_E n) :=
 EOK.ofS prog_names prog_mixed tab_ok (tbl := qah_tbl n) (loops := qah_loops n) (an := qah_an) (old := []) (n := n) (c := qah_c) (fn := Try.f77) (TblOK.cons (AllE.cons (qn_ok n) AllE.nil) TblOK.nil) (by kernel_rfl) (by kernel_rfl) (by kernel_rfl) (by kernel_rfl) (fun d => by kernel_rfl) (LT.cons (by kernel_rfl) (qah_f0 n) LT.nil) (fun a => qah_run n a.1 a.2)
def qbm_an : Ann := { live := [(0, [0, 1, 12, 13])] }
def qbm_c : Code := (match Try.f79.body with | some c => c | none => .skip)
def qbm_l0 : Code := (match assoc 0 (loopsIn qbm_c 0) with | some c => c | none => .skip)
def qbm_a : StSh := ⟨.normal, [0, 1], (.cons (.sl true false (.int .u64)) (.cons (.sl true false (.int .u64)) .nil)), .nil⟩
def qbm_h0 : List StSh := [⟨.normal, [0, 1, 12, 13], (.cons (.sl true false (.int .u64)) (.cons (.sl true false (.int .u64)) (.cons (.int .i64) (.cons (.int .i64) .nil)))), .nil⟩]
def qbm_o0 : List StSh := [⟨.ret, [4], (.cons .bool .nil), .nil⟩, ⟨.exit 0, [], .nil, .nil⟩]
def qbm_L0 (n : Nat) : LEntry := ⟨qbm_h0, qbm_o0, qbm_W0 n⟩
def qbm_res : List StSh := [⟨.ret, [0], (.cons .bool .nil), .nil⟩]
def qbm_tbl (n : Nat) : FuncId → List Entry := fun f => []
def qbm_loops (n : Nat) : Nat → Option LEntry := fun f => bif Nat.beq f 0 then some (qbm_L0 n) else none
theorem qbm_r0 (n : Nat) (s1_0 : DC) (s2_1 : DC) (t12 : Int) (t13 : Int) : roundK (real _) tab (qbm_tbl n) (qbm_loops n) qbm_an [] qbm_l0 0 [0, 1, 12, 13] qbm_h0 qbm_o0 (s1_0, (s2_1, (t12, t13))) some = qbm_B0 n s1_0 s2_1 t12 t13 := by kernel_rfl
theorem qbm_f0 (n : Nat) : LoopFact tab (qbm_tbl n) (qbm_loops n) qbm_an [] n 0 qbm_l0 (qbm_L0 n) := ⟨[0, 1, 12, 13], (fun s => qbm_B0 n s.1 s.2.1 s.2.2.1 s.2.2.2), by kernel_rfl, by kernel_rfl, fun s => rfl, fun s => qbm_r0 n s.1 s.2.1 s.2.2.1 s.2.2.2⟩
theorem qbm_run (n : Nat) (s1_0 : DC) (s2_1 : DC) : funDS (real _) tab (qbm_tbl n) (qbm_loops n) qbm_an Try.f79 0 qbm_a qbm_res (s1_0, s2_1) some = qbm n s1_0 s2_1 := by kernel_rfl
def qbm_E (n : Nat) : Entry := ⟨qbm_a, qbm_res, fun d => qbm n d.1 d.2⟩
theorem qbm_ok (n : Nat) : EOK Try.prog 79 (qbm_E n) :=
 EOK.ofS prog_names prog_mixed tab_ok (tbl := qbm_tbl n) (loops := qbm_loops n) (an := qbm_an) (old := []) (n := n) (c := qbm_c) (fn := Try.f79) TblOK.nil (by kernel_rfl) (by kernel_rfl) (by kernel_rfl) (by kernel_rfl) (fun d => by kernel_rfl) (LT.cons (by kernel_rfl) (qbm_f0 n) LT.nil) (fun a => qbm_run n a.1 a.2)
def qbi_an : Ann := { live := [(0, [0, 1, 12, 13])] }
def qbi_c : Code := (match Try.f80.body with | some c => c | none => .skip)
def qbi_l0 : Code := (match assoc 0 (loopsIn qbi_c 0) with | some c => c | none => .skip)
def qbi_a : StSh := ⟨.normal, [0, 1], (.cons (.sl true false .str) (.cons (.sl true false .str) .nil)), .nil⟩
def qbi_h0 : List StSh := [⟨.normal, [0, 1, 12, 13], (.cons (.sl true false .str) (.cons (.sl true false .str) (.cons (.int .i64) (.cons (.int .i64) .nil)))), .nil⟩]
def qbi_o0 : List StSh := [⟨.ret, [4], (.cons .bool .nil), .nil⟩, ⟨.exit 0, [], .nil, .nil⟩]
def qbi_L0 (n : Nat) : LEntry := ⟨qbi_h0, qbi_o0, qbi_W0 n⟩
def qbi_res : List StSh := [⟨.ret, [0], (.cons .bool .nil), .nil⟩]
def qbi_tbl (n : Nat) : FuncId → List Entry := fun f => []
def qbi_loops (n : Nat) : Nat → Option LEntry := fun f => bif Nat.beq f 0 then some (qbi_L0 n) else none
theorem qbi_r0 (n : Nat) (s1_0 : DD) (s2_1 : DD) (t12 : Int) (t13 : Int) : roundK (real _) tab (qbi_tbl n) (qbi_loops n) qbi_an [] qbi_l0 0 [0, 1, 12, 13] qbi_h0 qbi_o0 (s1_0, (s2_1, (t12, t13))) some = qbi_B0 n s1_0 s2_1 t12 t13 := by kernel_rfl
theorem qbi_f0 (n : Nat) : LoopFact tab (qbi_tbl n) (qbi_loops n) qbi_an [] n 0 qbi_l0 (qbi_L0 n) := ⟨[0, 1, 12, 13], (fun s => qbi_B0 n s.1 s.2.1 s.2.2.1 s.2.2.2), by kernel_rfl, by kernel_rfl, fun s => rfl, fun s => qbi_r0 n s.1 s.2.1 s.2.2.1 s.2.2.2⟩
theorem qbi_run (n : Nat) (s1_0 : DD) (s2_1 : DD) : funDS (real _) tab (qbi_tbl n) (qbi_loops n) qbi_an Try.f80 0 qbi_a qbi_res (s1_0, s2_1) some = qbi n s1_0 s2_1 := by kernel_rfl
def qbi_E (n : Nat) : Entry := ⟨qbi_a, qbi_res, fun d => qbi n d.1 d.2⟩
theorem qbi_ok (n : Nat) : EOK Try.prog 80 (qbi_E n) :=
 EOK.ofS prog_names prog_mixed tab_ok (tbl := qbi_tbl n) (loops := qbi_loops n) (an := qbi_an) (old := []) (n := n) (c := qbi_c) (fn := Try.f80) TblOK.nil (by kernel_rfl) (by kernel_rfl) (by kernel_rfl) (by kernel_rfl) (fun d => by kernel_rfl) (LT.cons (by kernel_rfl) (qbi_f0 n) LT.nil) (fun a => qbi_run n a.1 a.2)
def qby_res : List StSh := [⟨.ret, [0], (.cons .bool .nil), .nil⟩]
def qby_tbl (n : Nat) : FuncId → List Entry := fun f => bif Nat.beq f 73 then [qaq_E n] else bif Nat.beq f 75 then [qao_E n] else bif Nat.beq f 77 then [qah_E n] else bif Nat.beq f 79 then [qbm_E n] else bif Nat.beq f 80 then [qbi_E n] else []
def qby_loops (n : Nat) : Nat → Option LEntry := fun f => none
theorem qby_run (n : Nat) (a_0 : DG) (a_0_1 : DH) (a_0_2 : DI) (a_0_3 : DC) (a_0_4 : DD) (b_1 : DG) (b_1_1 : DH) (b_1_2 : DI) (b_1_3 : DC) (b_1_4 : DD) : funDS (real _) tab (qby_tbl n) (qby_loops n) qby_an Try.f27 0 qby_a qby_res ((a_0, (a_0_1, (a_0_2, (a_0_3, a_0_4)))), (b_1, (b_1_1, (b_1_2, (b_1_3, b_1_4))))) some = qby n a_0 a_0_1 a_0_2 a_0_3 a_0_4 b_1 b_1_1 b_1_2 b_1_3 b_1_4 := by kernel_rfl
def qby_E (n : Nat) : Entry := ⟨qby_a, qby_res, fun d => qby n d.1.1 d.1.2.1 d.1.2.2.1 d.1.2.2.2.1 d.1.2.2.2.2 d.2.1 d.2.2.1 d.2.2.2.1 d.2.2.2.2.1 d.2.2.2.2.2⟩
theorem qby_ok (n : Nat) : EOK Try.prog 27 (qby_E n) :=
 EOK.ofS prog_names prog_mixed tab_ok (tbl := qby_tbl n) (loops := qby_loops n) (an := qby_an) (old := []) (n := n) (c := qby_c) (fn := Try.f27) (TblOK.cons (AllE.cons (qaq_ok n) AllE.nil) (TblOK.cons (AllE.cons (qao_ok n) AllE.nil) (TblOK.cons (AllE.cons (qah_ok n) AllE.nil) (TblOK.cons (AllE.cons (qbm_ok n) AllE.nil) (TblOK.cons (AllE.cons (qbi_ok n) AllE.nil) TblOK.nil))))) (by kernel_rfl) (by kernel_rfl) (by kernel_rfl) (by kernel_rfl) (fun d => by kernel_rfl) LT.nil (fun a => qby_run n a.1.1 a.1.2.1 a.1.2.2.1 a.1.2.2.2.1 a.1.2.2.2.2 a.2.1 a.2.2.1 a.2.2.2.1 a.2.2.2.2.1 a.2.2.2.2.2)
def qbr_an : Ann := {}
def qbr_c : Code := (match Try.f22.body with | some c => c | none => .skip)
def qbr_a : StSh := ⟨.normal, [0], (.cons (.agg (.cons (.sl true false yA) (.cons (.sl true true yB) (.cons (.sl true true yC) (.cons (.sl true false (.int .u64)) (.cons (.sl true false .str) .nil)))))) .nil), .nil⟩
def qcs_an : Ann := { live := [(0, [3, 7, 8, 9]), (2, [3, 7, 8, 9, 17])] }
def qcs_c : Code := (match Try.f52.body with | some c => c | none => .skip)
def qcs_l0 : Code := (match assoc 0 (loopsIn qcs_c 0) with | some c => c | none => .skip)
def qcs_l2 : Code := (match assoc 2 (loopsIn qcs_c 0) with | some c => c | none => .skip)
def qcs_a : StSh := ⟨.normal, [0], (.cons (.sl true false (.int .u8)) .nil), .nil⟩
def qcs_h2 : List StSh := [⟨.normal, [3, 7, 8, 9, 17], (.cons (.int .u32) (.cons (.sl true false (.int .u8)) (.cons (.int .i64) (.cons (.int .i64) (.cons (.int .i64) .nil))))), .nil⟩]
def qcs_o2 : List StSh := [⟨.exit 2, [3, 7, 8, 9], (.cons (.int .u32) (.cons (.sl true false (.int .u8)) (.cons (.int .i64) (.cons (.int .i64) .nil)))), .nil⟩]
def qcs_L2 (n : Nat) : LEntry := ⟨qcs_h2, qcs_o2, qcs_W2 n⟩
def qcs_h0 : List StSh := [⟨.normal, [3, 7, 8, 9], (.cons (.int .u32) (.cons (.sl true false (.int .u8)) (.cons (.int .i64) (.cons (.int .i64) .nil)))), .nil⟩]
def qcs_o0 : List StSh := [⟨.exit 0, [3], (.cons (.int .u32) .nil), .nil⟩]
def qcs_L0 (n : Nat) : LEntry := ⟨qcs_h0, qcs_o0, qcs_W0 n⟩
def qcs_res : List StSh := [⟨.ret, [0], (.cons (.int .u32) .nil), .nil⟩]
def qcs_tbl (n : Nat) : FuncId → List Entry := fun f => []
def qcs_loops (n : Nat) : Nat → Option LEntry := fun f => bif Nat.beq f 2 then some (qcs_L2 n) else bif Nat.beq f 0 then some (qcs_L0 n) else none
theorem qcs_r2 (n : Nat) (n_3 : Int) (t7 : DC) (t8 : Int) (t9 : Int) (t17 : Int) : roundK (real _) tab (qcs_tbl n) (qcs_loops n) qcs_an [] qcs_l2 2 [3, 7, 8, 9, 17] qcs_h2 qcs_o2 (n_3, (t7, (t8, (t9, t17)))) some = qcs_B2 n n_3 t7 t8 t9 t17 := by kernel_rfl
theorem qcs_f2 (n : Nat) : LoopFact tab (qcs_tbl n) (qcs_loops n) qcs_an [] n 2 qcs_l2 (qcs_L2 n) := ⟨[3, 7, 8, 9, 17], (fun s => qcs_B2 n s.1 s.2.1 s.2.2.1 s.2.2.2.1 s.2.2.2.2), by kernel_rfl, by kernel_rfl, fun s => rfl, fun s => qcs_r2 n s.1 s.2.1 s.2.2.1 s.2.2.2.1 s.2.2.2.2⟩
theorem qcs_r0 (n : Nat) (n_3 : Int) (t7 : DC) (t8 : Int) (t9 : Int) : roundK (real _) tab (qcs_tbl n) (qcs_loops n) qcs_an [] qcs_l0 0 [3, 7, 8, 9] qcs_h0 qcs_o0 (n_3, (t7, (t8, t9))) some = qcs_B0 n n_3 t7 t8 t9 := by kernel_rfl
theorem qcs_f0 (n : Nat) : LoopFact tab (qcs_tbl n) (qcs_loops n) qcs_an [] n 0 qcs_l0 (qcs_L0 n) := ⟨[3, 7, 8, 9], (fun s => qcs_B0 n s.1 s.2.1 s.2.2.1 s.2.2.2), by kernel_rfl, by kernel_rfl, fun s => rfl, fun s => qcs_r0 n s.1 s.2.1 s.2.2.1 s.2.2.2⟩
theorem qcs_run (n : Nat) (b_0 : DC) : funDS (real _) tab (qcs_tbl n) (qcs_loops n) qcs_an Try.f52 0 qcs_a qcs_res b_0 some = qcs n b_0 := by kernel_rfl
def qcs_E (n : Nat) : Entry := ⟨qcs_a, qcs_res, fun d => qcs n d⟩
theorem qcs_ok (n : Nat) : EOK Try.prog 52 (qcs_E n) :=
 EOK.ofS prog_names prog_mixed tab_ok (tbl := qcs_tbl n) (loops := qcs_loops n) (an := qcs_an) (old := []) (n := n) (c := qcs_c) (fn := Try.f52) TblOK.nil (by kernel_rfl) (by kernel_rfl) (by kernel_rfl) (by kernel_rfl) (fun d => by kernel_rfl) (LT.cons (by kernel_rfl) (qcs_f2 n) (LT.cons (by kernel_rfl) (qcs_f0 n) LT.nil)) (fun a => qcs_run n a)
def qbr_res : List StSh := [⟨.ret, [0], (.cons (.int .u32) .nil), .nil⟩]
def qbr_tbl (n : Nat) : FuncId → List Entry := fun f => bif Nat.beq f 20 then [qbc_E n] else bif Nat.beq f 52 then [qcs_E n] else []
def qbr_loops (n : Nat) : Nat → Option LEntry := fun f => none
theorem qbr_run (n : Nat) (m_0 : DG) (m_0_1 : DH) (m_0_2 : DI) (m_0_3 : DC) (m_0_4 : DD) : funDS (real _) tab (qbr_tbl n) (qbr_loops n) qbr_an Try.f22 0 qbr_a qbr_res (m_0, (m_0_1, (m_0_2, (m_0_3, m_0_4)))) some = qbr n m_0 m_0_1 m_0_2 m_0_3 m_0_4 := by kernel_rfl
def qbr_E (n : Nat) : Entry := ⟨qbr_a, qbr_res, fun d => qbr n d.1 d.2.1 d.2.2.1 d.2.2.2.1 d.2.2.2.2⟩
theorem qbr_ok (n : Nat) : EOK Try.prog 22 (qbr_E n) :=
 EOK.ofS prog_names prog_mixed tab_ok (tbl := qbr_tbl n) (loops := qbr_loops n) (an := qbr_an) (old := []) (n := n) (c := qbr_c) (fn := Try.f22) (TblOK.cons (AllE.cons (qbc_ok n) AllE.nil) (TblOK.cons (AllE.cons (qcs_ok n) AllE.nil) TblOK.nil)) (by kernel_rfl) (by kernel_rfl) (by kernel_rfl) (by kernel_rfl) (fun d => by kernel_rfl) LT.nil (fun a => qbr_run n a.1 a.2.1 a.2.2.1 a.2.2.2.1 a.2.2.2.2)
def qbd_res : List StSh := [⟨.ret, [0], (.cons .bool .nil), .nil⟩]
def qbd_tbl (n : Nat) : FuncId → List Entry := fun f => bif Nat.beq f 20 then [qbc_E n] else bif Nat.beq f 23 then [qbf_E n] else bif Nat.beq f 27 then [qby_E n] else bif Nat.beq f 22 then [qbr_E n] else []
def qbd_loops (n : Nat) : Nat → Option LEntry := fun f => none
theorem qbd_run (n : Nat) : funDS (real _) tab (qbd_tbl n) (qbd_loops n) qbd_an Try.f19 0 qbd_a qbd_res () some = qbd n := by kernel_rfl
def qbd_E (n : Nat) : Entry := ⟨qbd_a, qbd_res, fun d => qbd n⟩
theorem qbd_ok (n : Nat) : EOK Try.prog 19 (qbd_E n) :=
 EOK.ofS prog_names prog_mixed tab_ok (tbl := qbd_tbl n) (loops := qbd_loops n) (an := qbd_an) (old := []) (n := n) (c := qbd_c) (fn := Try.f19) (TblOK.cons (AllE.cons (qbc_ok n) AllE.nil) (TblOK.cons (AllE.cons (qbf_ok n) AllE.nil) (TblOK.cons (AllE.cons (qby_ok n) AllE.nil) (TblOK.cons (AllE.cons (qbr_ok n) AllE.nil) TblOK.nil)))) (by kernel_rfl) (by kernel_rfl) (by kernel_rfl) (by kernel_rfl) (fun d => by kernel_rfl) LT.nil (fun a => qbd_run n)
def qbk_an : Ann := { live := [(0, [1, 4, 5, 6, 7]), (2, [1, 4, 5, 6, 10, 11]), (4, [1, 4, 5, 6, 10, 11, 12, 17]), (6, [1, 4, 5, 6, 10, 19, 20]), (8, [1, 5, 6, 10, 19, 23, 24]), (10, [1, 5, 6, 10, 19, 23, 25, 26])], boxed := [(10, 2), (21, 2), (21, 6), (21, 8), (21, 14), (28, 2), (35, 2), (35, 10), (40, 7), (46, 9), (46, 15)], raw := [(5, 2), (11, 4), (29, 4), (36, 4), (41, 4)] }
def qbk_c : Code := (match Try.f21.body with | some c => c | none => .skip)
def qbk_l0 : Code := (match assoc 0 (loopsIn qbk_c 0) with | some c => c | none => .skip)
def qbk_l2 : Code := (match assoc 2 (loopsIn qbk_c 0) with | some c => c | none => .skip)
def qbk_l4 : Code := (match assoc 4 (loopsIn qbk_c 0) with | some c => c | none => .skip)
def qbk_l6 : Code := (match assoc 6 (loopsIn qbk_c 0) with | some c => c | none => .skip)
def qbk_l8 : Code := (match assoc 8 (loopsIn qbk_c 0) with | some c => c | none => .skip)
def qbk_l10 : Code := (match assoc 10 (loopsIn qbk_c 0) with | some c => c | none => .skip)
def qbk_a : StSh := ⟨.normal, [0], (.cons (.agg (.cons (.sl true false yA) (.cons (.sl true true yB) (.cons (.sl true true yC) (.cons (.sl true false (.int .u64)) (.cons (.sl true false .str) .nil)))))) .nil), .nil⟩
def qch_an : Ann := { boxed := [(0, 0), (2, 2), (3, 4), (3, 8)] }
def qch_c : Code := (match Try.f46.body with | some c => c | none => .skip)
def qch_a : StSh := ⟨.normal, [0], (.cons (.int .u64) .nil), .nil⟩
def qch_res : List StSh := [⟨.ret, [0], (.cons (.msw 0 0) .nil), (.cons (.bts 0 false false false (.int .u8)) .nil)⟩]
def qch_Ed (n d : Nat) : Entry := ⟨qch_a, qch_res, qch_D n d⟩
def qch_tbl (n d : Nat) : FuncId → List Entry := fun f => bif Nat.beq f 46 then [qch_Ed n d] else []
def qch_loops (n : Nat) : Nat → Option LEntry := fun f => none
theorem qch_run (n d : Nat) (v_0 : Int) : funD (real _) tab (qch_tbl n d) (qch_loops n) qch_an Try.f46 qch_a qch_res v_0 some = qch_D n (d + 1) v_0 := by kernel_rfl
def qch_E (n : Nat) : Entry := ⟨qch_a, qch_res, fun d => qch n d⟩
theorem qch_okd (n : Nat) (d : Nat) : EOK Try.prog 46 (qch_Ed n d) :=
 Nat.rec (EOK.none (by kernel_rfl) fun _ => rfl) (fun d ih => EOK.of prog_names prog_mixed tab_ok (tbl := qch_tbl n d) (loops := qch_loops n) (an := qch_an) (old := []) (n := n) (c := qch_c) (fn := Try.f46) (TblOK.cons (AllE.cons ih AllE.nil) TblOK.nil) (by kernel_rfl) (by kernel_rfl) (by kernel_rfl) (by kernel_rfl) (fun d => by kernel_rfl) LT.nil (fun a => qch_run n d a)) d
theorem qch_ok (n : Nat) : EOK Try.prog 46 (qch_E n) := qch_okd n n
def qbv_an : Ann := { live := [(0, [0, 1, 2, 8, 9])], boxed := [(7, 6)], raw := [(1, 3)] }
def qbv_c : Code := (match Try.f47.body with | some c => c | none => .skip)
def qbv_l0 : Code := (match assoc 0 (loopsIn qbv_c 0) with | some c => c | none => .skip)
def qbv_a : StSh := ⟨.normal, [0, 1, 2], (.cons (.sl true true yD) (.cons (.int .i64) (.cons (.int .i64) .nil))), .nil⟩
def qcb_an : Ann := {}
def qcb_c : Code := (match Try.f18.body with | some c => c | none => .skip)
def qcb_a : StSh := ⟨.normal, [0, 1], (.cons (.agg (.cons (.int .i64) (.cons (.int .i64) .nil))) (.cons (.int .i64) .nil)), .nil⟩
def qcb_res : List StSh := [⟨.ret, [0], (.cons .bool .nil), .nil⟩]
def qcb_tbl (n : Nat) : FuncId → List Entry := fun f => []
def qcb_loops (n : Nat) : Nat → Option LEntry := fun f => none
theorem qcb_run (n : Nat) (t_0 : Int) (t_0_1 : Int) (recs_1 : Int) : funDS (real _) tab (qcb_tbl n) (qcb_loops n) qcb_an Try.f18 0 qcb_a qcb_res ((t_0, t_0_1), recs_1) some = qcb n t_0 t_0_1 recs_1 := by kernel_rfl
def qcb_E (n : Nat) : Entry := ⟨qcb_a, qcb_res, fun d => qcb n d.1.1 d.1.2 d.2⟩
theorem qcb_ok (n : Nat) : EOK Try.prog 18 (qcb_E n) :=
 EOK.ofS prog_names prog_mixed tab_ok (tbl := qcb_tbl n) (loops := qcb_loops n) (an := qcb_an) (old := []) (n := n) (c := qcb_c) (fn := Try.f18) TblOK.nil (by kernel_rfl) (by kernel_rfl) (by kernel_rfl) (by kernel_rfl) (fun d => by kernel_rfl) LT.nil (fun a => qcb_run n a.1.1 a.1.2 a.2)
def qce_an : Ann := { raw := [(6, 2)] }
def qce_c : Code := (match Try.f48.body with | some c => c | none => .skip)
def qce_a : StSh := ⟨.normal, [0], (.cons (.agg (.cons (.int .i64) (.cons (.int .i64) .nil))) .nil), .nil⟩
def qce_res : List StSh := [⟨.ret, [0], (.cons (.sl false false (.int .u8)) .nil), .nil⟩]
def qce_tbl (n : Nat) : FuncId → List Entry := fun f => bif Nat.beq f 46 then [qch_E n] else []
def qce_loops (n : Nat) : Nat → Option LEntry := fun f => none
theorem qce_run (n : Nat) (t_0 : Int) (t_0_1 : Int) : funDS (real _) tab (qce_tbl n) (qce_loops n) qce_an Try.f48 0 qce_a qce_res (t_0, t_0_1) some = qce n t_0 t_0_1 := by kernel_rfl
def qce_E (n : Nat) : Entry := ⟨qce_a, qce_res, fun d => qce n d.1 d.2⟩
theorem qce_ok (n : Nat) : EOK Try.prog 48 (qce_E n) :=
 EOK.ofS prog_names prog_mixed tab_ok (tbl := qce_tbl n) (loops := qce_loops n) (an := qce_an) (old := []) (n := n) (c := qce_c) (fn := Try.f48) (TblOK.cons (AllE.cons (qch_ok n) AllE.nil) TblOK.nil) (by kernel_rfl) (by kernel_rfl) (by kernel_rfl) (by kernel_rfl) (fun d => by kernel_rfl) LT.nil (fun a => qce_run n a.1 a.2)
def qbv_h0 : List StSh := [⟨.normal, [0, 1, 2, 8, 9], (.cons (.sl true true yD) (.cons (.int .i64) (.cons (.int .i64) (.cons (.msw 0 0) (.cons (.int .i64) .nil))))), (.cons (.bts 0 false false false (.int .u8)) .nil)⟩]
def qbv_o0 : List StSh := [⟨.ret, [6, 7], (.cons (.sl false false (.int .u8)) (.cons .bool .nil)), (.cons (.bts 0 false false false (.int .u8)) .nil)⟩, ⟨.exit 0, [0, 2, 8], (.cons (.sl true true yD) (.cons (.int .i64) (.cons (.msw 0 0) .nil))), (.cons (.bts 0 false false false (.int .u8)) .nil)⟩]
def qbv_L0 (n : Nat) : LEntry := ⟨qbv_h0, qbv_o0, qbv_W0 n⟩
def qbv_res : List StSh := [⟨.ret, [0], (.cons (.tup (.cons (.sl false false (.int .u8)) (.cons .bool .nil))) .nil), .nil⟩]
def qbv_tbl (n : Nat) : FuncId → List Entry := fun f => bif Nat.beq f 46 then [qch_E n] else bif Nat.beq f 18 then [qcb_E n] else bif Nat.beq f 48 then [qce_E n] else []
def qbv_loops (n : Nat) : Nat → Option LEntry := fun f => bif Nat.beq f 0 then some (qbv_L0 n) else none
theorem qbv_r0 (n : Nat) (l_0 : DA) (recs_1 : Int) (most_2 : Int) (i_9 : Int) (m0 : DC) : roundK (real _) tab (qbv_tbl n) (qbv_loops n) qbv_an [] qbv_l0 0 [0, 1, 2, 8, 9] qbv_h0 qbv_o0 ((l_0, (recs_1, (most_2, i_9))), m0) some = qbv_B0 n l_0 recs_1 most_2 i_9 m0 := by kernel_rfl
theorem qbv_f0 (n : Nat) : LoopFact tab (qbv_tbl n) (qbv_loops n) qbv_an [] n 0 qbv_l0 (qbv_L0 n) := ⟨[0, 1, 2, 8, 9], (fun s => qbv_B0 n s.1.1 s.1.2.1 s.1.2.2.1 s.1.2.2.2 s.2), by kernel_rfl, by kernel_rfl, fun s => rfl, fun s => qbv_r0 n s.1.1 s.1.2.1 s.1.2.2.1 s.1.2.2.2 s.2⟩
theorem qbv_run (n : Nat) (l_0 : DA) (recs_1 : Int) (most_2 : Int) : funDS (real _) tab (qbv_tbl n) (qbv_loops n) qbv_an Try.f47 0 qbv_a qbv_res (l_0, (recs_1, most_2)) some = qbv n l_0 recs_1 most_2 := by kernel_rfl
def qbv_E (n : Nat) : Entry := ⟨qbv_a, qbv_res, fun d => qbv n d.1 d.2.1 d.2.2⟩
theorem qbv_ok (n : Nat) : EOK Try.prog 47 (qbv_E n) :=
 EOK.ofS prog_names prog_mixed tab_ok (tbl := qbv_tbl n) (loops := qbv_loops n) (an := qbv_an) (old := []) (n := n) (c := qbv_c) (fn := Try.f47) (TblOK.cons (AllE.cons (qch_ok n) AllE.nil) (TblOK.cons (AllE.cons (qcb_ok n) AllE.nil) (TblOK.cons (AllE.cons (qce_ok n) AllE.nil) TblOK.nil))) (by kernel_rfl) (by kernel_rfl) (by kernel_rfl) (by kernel_rfl) (fun d => by kernel_rfl) (LT.cons (by kernel_rfl) (qbv_f0 n) LT.nil) (fun a => qbv_run n a.1 a.2.1 a.2.2)
def qbk_h0 : List StSh := [⟨.normal, [1, 4, 5, 6, 7], (.cons (.ptr 0 0 0 0) (.cons (.int .i64) (.cons .bool (.cons (.msw 1 0) (.cons (.int .i64) .nil))))), (.cons (.bcells 0 false 1 (.cons (.sl true false yA) (.cons (.sl true true yB) (.cons (.sl true true yC) (.cons (.sl true false (.int .u64)) (.cons (.sl true false .str) .nil)))))) (.cons (.bts 0 false false false (.int .u8)) .nil))⟩]
def qbk_o0 : List StSh := [⟨.exit 0, [1, 4, 5, 6], (.cons (.ptr 0 0 0 0) (.cons (.int .i64) (.cons .bool (.cons (.msw 1 0) .nil)))), (.cons (.bcells 0 false 1 (.cons (.sl true false yA) (.cons (.sl true true yB) (.cons (.sl true true yC) (.cons (.sl true false (.int .u64)) (.cons (.sl true false .str) .nil)))))) (.cons (.bts 0 false false false (.int .u8)) .nil))⟩]
def qbk_L0 (n : Nat) : LEntry := ⟨qbk_h0, qbk_o0, qbk_W0 n⟩
def qbw_an : Ann := { boxed := [(4, 3), (6, 5), (8, 5)] }
def qbw_c : Code := (match Try.f49.body with | some c => c | none => .skip)
def qbw_a : StSh := ⟨.normal, [0], (.cons (.agg (.cons (.int .i64) (.cons (.int .i64) (.cons (.int .i64) .nil)))) .nil), .nil⟩
def qcg_an : Ann := { live := [(0, [0, 3, 4])] }
def qcg_c : Code := (match Try.f101.body with | some c => c | none => .skip)
def qcg_l0 : Code := (match assoc 0 (loopsIn qcg_c 0) with | some c => c | none => .skip)
def qcg_a : StSh := ⟨.normal, [0], (.cons (.int .i64) .nil), .nil⟩
def qcg_h0 : List StSh := [⟨.normal, [0, 3, 4], (.cons (.int .i64) (.cons (.sl false false (.int .i64)) (.cons (.int .i64) .nil))), .nil⟩]
def qcg_o0 : List StSh := [⟨.ret, [2], (.cons (.int .i64) .nil), .nil⟩, ⟨.exit 0, [], .nil, .nil⟩]
def qcg_L0 (n : Nat) : LEntry := ⟨qcg_h0, qcg_o0, qcg_W0 n⟩
def qcg_res : List StSh := [⟨.ret, [0], (.cons (.int .i64) .nil), .nil⟩]
def qcg_tbl (n : Nat) : FuncId → List Entry := fun f => []
def qcg_loops (n : Nat) : Nat → Option LEntry := fun f => bif Nat.beq f 0 then some (qcg_L0 n) else none
theorem qcg_r0 (n : Nat) (op_0 : Int) (l_3 : DC) (i_4 : Int) : roundK (real _) tab (qcg_tbl n) (qcg_loops n) qcg_an [] qcg_l0 0 [0, 3, 4] qcg_h0 qcg_o0 (op_0, (l_3, i_4)) some = qcg_B0 n op_0 l_3 i_4 := by kernel_rfl
theorem qcg_f0 (n : Nat) : LoopFact tab (qcg_tbl n) (qcg_loops n) qcg_an [] n 0 qcg_l0 (qcg_L0 n) := ⟨[0, 3, 4], (fun s => qcg_B0 n s.1 s.2.1 s.2.2), by kernel_rfl, by kernel_rfl, fun s => rfl, fun s => qcg_r0 n s.1 s.2.1 s.2.2⟩
theorem qcg_run (n : Nat) (op_0 : Int) : funDS (real _) tab (qcg_tbl n) (qcg_loops n) qcg_an Try.f101 0 qcg_a qcg_res op_0 some = qcg n op_0 := by kernel_rfl
def qcg_E (n : Nat) : Entry := ⟨qcg_a, qcg_res, fun d => qcg n d⟩
theorem qcg_ok (n : Nat) : EOK Try.prog 101 (qcg_E n) :=
 EOK.ofS prog_names prog_mixed tab_ok (tbl := qcg_tbl n) (loops := qcg_loops n) (an := qcg_an) (old := []) (n := n) (c := qcg_c) (fn := Try.f101) TblOK.nil (by kernel_rfl) (by kernel_rfl) (by kernel_rfl) (by kernel_rfl) (fun d => by kernel_rfl) (LT.cons (by kernel_rfl) (qcg_f0 n) LT.nil) (fun a => qcg_run n a)
def qbw_res : List StSh := [⟨.ret, [0], (.cons (.sl false false (.int .u8)) .nil), .nil⟩]
def qbw_tbl (n : Nat) : FuncId → List Entry := fun f => bif Nat.beq f 101 then [qcg_E n] else bif Nat.beq f 46 then [qch_E n] else []
def qbw_loops (n : Nat) : Nat → Option LEntry := fun f => none
theorem qbw_run (n : Nat) (t0 : Int) (t0_1 : Int) (t0_2 : Int) : funDS (real _) tab (qbw_tbl n) (qbw_loops n) qbw_an Try.f49 0 qbw_a qbw_res (t0, (t0_1, t0_2)) some = qbw n t0 t0_1 t0_2 := by kernel_rfl
def qbw_E (n : Nat) : Entry := ⟨qbw_a, qbw_res, fun d => qbw n d.1 d.2.1 d.2.2⟩
theorem qbw_ok (n : Nat) : EOK Try.prog 49 (qbw_E n) :=
 EOK.ofS prog_names prog_mixed tab_ok (tbl := qbw_tbl n) (loops := qbw_loops n) (an := qbw_an) (old := []) (n := n) (c := qbw_c) (fn := Try.f49) (TblOK.cons (AllE.cons (qcg_ok n) AllE.nil) (TblOK.cons (AllE.cons (qch_ok n) AllE.nil) TblOK.nil)) (by kernel_rfl) (by kernel_rfl) (by kernel_rfl) (by kernel_rfl) (fun d => by kernel_rfl) LT.nil (fun a => qbw_run n a.1 a.2.1 a.2.2)
def qbk_h4 : List StSh := [⟨.normal, [1, 4, 5, 6, 10, 11, 12, 17], (.cons (.ptr 0 0 0 0) (.cons (.int .i64) (.cons .bool (.cons (.msw 1 0) (.cons (.msw 2 0) (.cons (.int .i64) (.cons (.ptr 3 0 0 0) (.cons (.int .i64) .nil)))))))), (.cons (.bcells 0 false 1 (.cons (.sl true false yA) (.cons (.sl true true yB) (.cons (.sl true true yC) (.cons (.sl true false (.int .u64)) (.cons (.sl true false .str) .nil)))))) (.cons (.bts 0 false false false (.int .u8)) (.cons (.bts 0 false false false (.int .u8)) (.cons (.bcells 0 false 1 (.cons (.sl true true yD) (.cons (.int .i64) (.cons (.int .i64) (.cons (.sl true true yD) (.cons (.sl true true yE) .nil)))))) .nil))))⟩]
def qbk_o4 : List StSh := [⟨.ret, [2, 3], (.cons (.sl false false (.int .u8)) (.cons .bool .nil)), (.cons (.bcells 0 false 1 (.cons (.sl true false yA) (.cons (.sl true true yB) (.cons (.sl true true yC) (.cons (.sl true false (.int .u64)) (.cons (.sl true false .str) .nil)))))) (.cons (.bts 0 false false false (.int .u8)) (.cons (.bts 0 false false false (.int .u8)) (.cons (.bcells 0 false 1 (.cons (.sl true true yD) (.cons (.int .i64) (.cons (.int .i64) (.cons (.sl true true yD) (.cons (.sl true true yE) .nil)))))) .nil))))⟩, ⟨.exit 4, [1, 4, 5, 6, 10, 11], (.cons (.ptr 0 0 0 0) (.cons (.int .i64) (.cons .bool (.cons (.msw 1 0) (.cons (.msw 2 0) (.cons (.int .i64) .nil)))))), (.cons (.bcells 0 false 1 (.cons (.sl true false yA) (.cons (.sl true true yB) (.cons (.sl true true yC) (.cons (.sl true false (.int .u64)) (.cons (.sl true false .str) .nil)))))) (.cons (.bts 0 false false false (.int .u8)) (.cons (.bts 0 false false false (.int .u8)) (.cons (.bcells 0 false 1 (.cons (.sl true true yD) (.cons (.int .i64) (.cons (.int .i64) (.cons (.sl true true yD) (.cons (.sl true true yE) .nil)))))) .nil))))⟩]
def qbk_L4 (n : Nat) : LEntry := ⟨qbk_h4, qbk_o4, qbk_W4 n⟩
def qbk_h2 : List StSh := [⟨.normal, [1, 4, 5, 6, 10, 11], (.cons (.ptr 0 0 0 0) (.cons (.int .i64) (.cons .bool (.cons (.msw 1 0) (.cons (.msw 2 0) (.cons (.int .i64) .nil)))))), (.cons (.bcells 0 false 1 (.cons (.sl true false yA) (.cons (.sl true true yB) (.cons (.sl true true yC) (.cons (.sl true false (.int .u64)) (.cons (.sl true false .str) .nil)))))) (.cons (.bts 0 false false false (.int .u8)) (.cons (.bts 0 false false false (.int .u8)) .nil)))⟩]
def qbk_o2 : List StSh := [⟨.ret, [2, 3], (.cons (.sl false false (.int .u8)) (.cons .bool .nil)), (.cons (.bcells 0 false 1 (.cons (.sl true false yA) (.cons (.sl true true yB) (.cons (.sl true true yC) (.cons (.sl true false (.int .u64)) (.cons (.sl true false .str) .nil)))))) (.cons (.bts 0 false false false (.int .u8)) (.cons (.bts 0 false false false (.int .u8)) (.cons (.bcells 0 false 1 (.cons (.sl true true yD) (.cons (.int .i64) (.cons (.int .i64) (.cons (.sl true true yD) (.cons (.sl true true yE) .nil)))))) .nil))))⟩, ⟨.exit 2, [1, 4, 5, 6, 10], (.cons (.ptr 0 0 0 0) (.cons (.int .i64) (.cons .bool (.cons (.msw 1 0) (.cons (.msw 2 0) .nil))))), (.cons (.bcells 0 false 1 (.cons (.sl true false yA) (.cons (.sl true true yB) (.cons (.sl true true yC) (.cons (.sl true false (.int .u64)) (.cons (.sl true false .str) .nil)))))) (.cons (.bts 0 false false false (.int .u8)) (.cons (.bts 0 false false false (.int .u8)) .nil)))⟩]
def qbk_L2 (n : Nat) : LEntry := ⟨qbk_h2, qbk_o2, qbk_W2 n⟩
def qbk_h6 : List StSh := [⟨.normal, [1, 4, 5, 6, 10, 19, 20], (.cons (.ptr 0 0 0 0) (.cons (.int .i64) (.cons .bool (.cons (.msw 1 0) (.cons (.msw 2 0) (.cons (.msw 3 0) (.cons (.int .i64) .nil))))))), (.cons (.bcells 0 false 1 (.cons (.sl true false yA) (.cons (.sl true true yB) (.cons (.sl true true yC) (.cons (.sl true false (.int .u64)) (.cons (.sl true false .str) .nil)))))) (.cons (.bts 0 false false false (.int .u8)) (.cons (.bts 0 false false false (.int .u8)) (.cons (.bts 0 false false false (.int .u8)) .nil))))⟩]
def qbk_o6 : List StSh := [⟨.exit 6, [1, 5, 6, 10, 19], (.cons (.ptr 0 0 0 0) (.cons .bool (.cons (.msw 1 0) (.cons (.msw 2 0) (.cons (.msw 3 0) .nil))))), (.cons (.bcells 0 false 1 (.cons (.sl true false yA) (.cons (.sl true true yB) (.cons (.sl true true yC) (.cons (.sl true false (.int .u64)) (.cons (.sl true false .str) .nil)))))) (.cons (.bts 0 false false false (.int .u8)) (.cons (.bts 0 false false false (.int .u8)) (.cons (.bts 0 false false false (.int .u8)) .nil))))⟩]
def qbk_L6 (n : Nat) : LEntry := ⟨qbk_h6, qbk_o6, qbk_W6 n⟩
def qbu_an : Ann := { live := [(0, [0, 1, 5, 6])], boxed := [(1, 0), (5, 5)] }
def qbu_c : Code := (match Try.f50.body with | some c => c | none => .skip)
def qbu_l0 : Code := (match assoc 0 (loopsIn qbu_c 0) with | some c => c | none => .skip)
def qbu_a : StSh := ⟨.normal, [0, 1], (.cons (.int .u64) (.cons (.int .i64) .nil)), .nil⟩
def qbu_h0 : List StSh := [⟨.normal, [0, 1, 5, 6], (.cons (.int .u64) (.cons (.int .i64) (.cons (.msw 0 0) (.cons (.int .i64) .nil)))), (.cons (.bts 0 false false false (.int .u8)) .nil)⟩]
def qbu_o0 : List StSh := [⟨.exit 0, [5], (.cons (.msw 0 0) .nil), (.cons (.bts 0 false false false (.int .u8)) .nil)⟩]
def qbu_L0 (n : Nat) : LEntry := ⟨qbu_h0, qbu_o0, qbu_W0 n⟩
def qbu_res : List StSh := [⟨.ret, [0], (.cons (.sl false false (.int .u8)) .nil), .nil⟩]
def qbu_tbl (n : Nat) : FuncId → List Entry := fun f => []
def qbu_loops (n : Nat) : Nat → Option LEntry := fun f => bif Nat.beq f 0 then some (qbu_L0 n) else none
theorem qbu_r0 (n : Nat) (v_0 : Int) (n_1 : Int) (k_6 : Int) (m0 : DC) : roundK (real _) tab (qbu_tbl n) (qbu_loops n) qbu_an [] qbu_l0 0 [0, 1, 5, 6] qbu_h0 qbu_o0 ((v_0, (n_1, k_6)), m0) some = qbu_B0 n v_0 n_1 k_6 m0 := by kernel_rfl
theorem qbu_f0 (n : Nat) : LoopFact tab (qbu_tbl n) (qbu_loops n) qbu_an [] n 0 qbu_l0 (qbu_L0 n) := ⟨[0, 1, 5, 6], (fun s => qbu_B0 n s.1.1 s.1.2.1 s.1.2.2 s.2), by kernel_rfl, by kernel_rfl, fun s => rfl, fun s => qbu_r0 n s.1.1 s.1.2.1 s.1.2.2 s.2⟩
theorem qbu_run (n : Nat) (v_0 : Int) (n_1 : Int) : funDS (real _) tab (qbu_tbl n) (qbu_loops n) qbu_an Try.f50 0 qbu_a qbu_res (v_0, n_1) some = qbu n v_0 n_1 := by kernel_rfl
def qbu_E (n : Nat) : Entry := ⟨qbu_a, qbu_res, fun d => qbu n d.1 d.2⟩
theorem qbu_ok (n : Nat) : EOK Try.prog 50 (qbu_E n) :=
 EOK.ofS prog_names prog_mixed tab_ok (tbl := qbu_tbl n) (loops := qbu_loops n) (an := qbu_an) (old := []) (n := n) (c := qbu_c) (fn := Try.f50) TblOK.nil (by kernel_rfl) (by kernel_rfl) (by kernel_rfl) (by kernel_rfl) (fun d => by kernel_rfl) (LT.cons (by kernel_rfl) (qbu_f0 n) LT.nil) (fun a => qbu_run n a.1 a.2)
def qbk_h8 : List StSh := [⟨.normal, [1, 5, 6, 10, 19, 23, 24], (.cons (.ptr 0 0 0 0) (.cons .bool (.cons (.msw 1 0) (.cons (.msw 2 0) (.cons (.msw 3 0) (.cons (.msw 4 0) (.cons (.int .i64) .nil))))))), (.cons (.bcells 0 false 1 (.cons (.sl true false yA) (.cons (.sl true true yB) (.cons (.sl true true yC) (.cons (.sl true false (.int .u64)) (.cons (.sl true false .str) .nil)))))) (.cons (.bts 0 false false false (.int .u8)) (.cons (.bts 0 false false false (.int .u8)) (.cons (.bts 0 false false false (.int .u8)) (.cons (.bts 0 false false false (.int .u8)) .nil)))))⟩]
def qbk_o8 : List StSh := [⟨.exit 8, [1, 5, 6, 10, 19, 23], (.cons (.ptr 0 0 0 0) (.cons .bool (.cons (.msw 1 0) (.cons (.msw 2 0) (.cons (.msw 3 0) (.cons (.msw 4 0) .nil)))))), (.cons (.bcells 0 false 1 (.cons (.sl true false yA) (.cons (.sl true true yB) (.cons (.sl true true yC) (.cons (.sl true false (.int .u64)) (.cons (.sl true false .str) .nil)))))) (.cons (.bts 0 false false false (.int .u8)) (.cons (.bts 0 false false false (.int .u8)) (.cons (.bts 0 false false false (.int .u8)) (.cons (.bts 0 false false false (.int .u8)) .nil)))))⟩]
def qbk_L8 (n : Nat) : LEntry := ⟨qbk_h8, qbk_o8, qbk_W8 n⟩
def qbk_h10 : List StSh := [⟨.normal, [1, 5, 6, 10, 19, 23, 25, 26], (.cons (.ptr 0 0 0 0) (.cons .bool (.cons (.msw 1 0) (.cons (.msw 2 0) (.cons (.msw 3 0) (.cons (.msw 4 0) (.cons (.msw 5 0) (.cons (.int .i64) .nil)))))))), (.cons (.bcells 0 false 1 (.cons (.sl true false yA) (.cons (.sl true true yB) (.cons (.sl true true yC) (.cons (.sl true false (.int .u64)) (.cons (.sl true false .str) .nil)))))) (.cons (.bts 0 false false false (.int .u8)) (.cons (.bts 0 false false false (.int .u8)) (.cons (.bts 0 false false false (.int .u8)) (.cons (.bts 0 false false false (.int .u8)) (.cons (.bts 0 false false false (.int .u8)) .nil))))))⟩]
def qbk_o10 : List StSh := [⟨.exit 10, [5, 6, 10, 19, 23, 25], (.cons .bool (.cons (.msw 1 0) (.cons (.msw 2 0) (.cons (.msw 3 0) (.cons (.msw 4 0) (.cons (.msw 5 0) .nil)))))), (.cons (.bcells 0 false 1 (.cons (.sl true false yA) (.cons (.sl true true yB) (.cons (.sl true true yC) (.cons (.sl true false (.int .u64)) (.cons (.sl true false .str) .nil)))))) (.cons (.bts 0 false false false (.int .u8)) (.cons (.bts 0 false false false (.int .u8)) (.cons (.bts 0 false false false (.int .u8)) (.cons (.bts 0 false false false (.int .u8)) (.cons (.bts 0 false false false (.int .u8)) .nil))))))⟩]
def qbk_L10 (n : Nat) : LEntry := ⟨qbk_h10, qbk_o10, qbk_W10 n⟩
def qcd_an : Ann := { live := [(0, [0, 3, 4])], boxed := [(5, 8), (5, 13)], raw := [(1, 3)] }
def qcd_c : Code := (match Try.f51.body with | some c => c | none => .skip)
def qcd_l0 : Code := (match assoc 0 (loopsIn qcd_c 0) with | some c => c | none => .skip)
def qcd_a : StSh := ⟨.normal, [0], (.cons (.sl true false yF) .nil), .nil⟩
def qcd_h0 : List StSh := [⟨.normal, [0, 3, 4], (.cons (.sl true false yF) (.cons (.msw 0 0) (.cons (.int .i64) .nil))), (.cons (.bts 0 false false false (.int .u8)) .nil)⟩]
def qcd_o0 : List StSh := [⟨.exit 0, [3], (.cons (.msw 0 0) .nil), (.cons (.bts 0 false false false (.int .u8)) .nil)⟩]
def qcd_L0 (n : Nat) : LEntry := ⟨qcd_h0, qcd_o0, qcd_W0 n⟩
def qcd_res : List StSh := [⟨.ret, [0], (.cons (.sl false false (.int .u8)) .nil), .nil⟩]
def qcd_tbl (n : Nat) : FuncId → List Entry := fun f => bif Nat.beq f 46 then [qch_E n] else []
def qcd_loops (n : Nat) : Nat → Option LEntry := fun f => bif Nat.beq f 0 then some (qcd_L0 n) else none
theorem qcd_r0 (n : Nat) (l_0 : DJ) (i_4 : Int) (m0 : DC) : roundK (real _) tab (qcd_tbl n) (qcd_loops n) qcd_an [] qcd_l0 0 [0, 3, 4] qcd_h0 qcd_o0 ((l_0, i_4), m0) some = qcd_B0 n l_0 i_4 m0 := by kernel_rfl
theorem qcd_f0 (n : Nat) : LoopFact tab (qcd_tbl n) (qcd_loops n) qcd_an [] n 0 qcd_l0 (qcd_L0 n) := ⟨[0, 3, 4], (fun s => qcd_B0 n s.1.1 s.1.2 s.2), by kernel_rfl, by kernel_rfl, fun s => rfl, fun s => qcd_r0 n s.1.1 s.1.2 s.2⟩
theorem qcd_run (n : Nat) (l_0 : DJ) : funDS (real _) tab (qcd_tbl n) (qcd_loops n) qcd_an Try.f51 0 qcd_a qcd_res l_0 some = qcd n l_0 := by kernel_rfl
def qcd_E (n : Nat) : Entry := ⟨qcd_a, qcd_res, fun d => qcd n d⟩
theorem qcd_ok (n : Nat) : EOK Try.prog 51 (qcd_E n) :=
 EOK.ofS prog_names prog_mixed tab_ok (tbl := qcd_tbl n) (loops := qcd_loops n) (an := qcd_an) (old := []) (n := n) (c := qcd_c) (fn := Try.f51) (TblOK.cons (AllE.cons (qch_ok n) AllE.nil) TblOK.nil) (by kernel_rfl) (by kernel_rfl) (by kernel_rfl) (by kernel_rfl) (fun d => by kernel_rfl) (LT.cons (by kernel_rfl) (qcd_f0 n) LT.nil) (fun a => qcd_run n a)
def qbk_res : List StSh := [⟨.ret, [0], (.cons (.tup (.cons (.sl false false (.int .u8)) (.cons .bool .nil))) .nil), .nil⟩]
def qbk_tbl (n : Nat) : FuncId → List Entry := fun f => bif Nat.beq f 46 then [qch_E n] else bif Nat.beq f 47 then [qbv_E n] else bif Nat.beq f 18 then [qcb_E n] else bif Nat.beq f 48 then [qce_E n] else bif Nat.beq f 49 then [qbw_E n] else bif Nat.beq f 50 then [qbu_E n] else bif Nat.beq f 51 then [qcd_E n] else []
def qbk_loops (n : Nat) : Nat → Option LEntry := fun f => bif Nat.beq f 0 then some (qbk_L0 n) else bif Nat.beq f 4 then some (qbk_L4 n) else bif Nat.beq f 2 then some (qbk_L2 n) else bif Nat.beq f 6 then some (qbk_L6 n) else bif Nat.beq f 8 then some (qbk_L8 n) else bif Nat.beq f 10 then some (qbk_L10 n) else none
theorem qbk_r0 (n : Nat) (t4 : Int) (t5 : Bool) (t7 : Int) (m0 : DG) (m0_1 : DH) (m0_2 : DI) (m0_3 : DC) (m0_4 : DD) (m1 : DC) : roundK (real _) tab (qbk_tbl n) (qbk_loops n) qbk_an [] qbk_l0 0 [1, 4, 5, 6, 7] qbk_h0 qbk_o0 ((t4, (t5, t7)), ((m0, (m0_1, (m0_2, (m0_3, m0_4)))), m1)) some = qbk_B0 n t4 t5 t7 m0 m0_1 m0_2 m0_3 m0_4 m1 := by kernel_rfl
theorem qbk_f0 (n : Nat) : LoopFact tab (qbk_tbl n) (qbk_loops n) qbk_an [] n 0 qbk_l0 (qbk_L0 n) := ⟨[1, 4, 5, 6, 7], (fun s => qbk_B0 n s.1.1 s.1.2.1 s.1.2.2 s.2.1.1 s.2.1.2.1 s.2.1.2.2.1 s.2.1.2.2.2.1 s.2.1.2.2.2.2 s.2.2), by kernel_rfl, by kernel_rfl, fun s => rfl, fun s => qbk_r0 n s.1.1 s.1.2.1 s.1.2.2 s.2.1.1 s.2.1.2.1 s.2.1.2.2.1 s.2.1.2.2.2.1 s.2.1.2.2.2.2 s.2.2⟩
theorem qbk_r4 (n : Nat) (t4 : Int) (t5 : Bool) (t11 : Int) (t17 : Int) (m0 : DG) (m0_1 : DH) (m0_2 : DI) (m0_3 : DC) (m0_4 : DD) (m1 : DC) (m2 : DC) (m3 : DA) (m3_1 : Int) (m3_2 : Int) (m3_3 : DA) (m3_4 : DB) : roundK (real _) tab (qbk_tbl n) (qbk_loops n) qbk_an [] qbk_l4 4 [1, 4, 5, 6, 10, 11, 12, 17] qbk_h4 qbk_o4 ((t4, (t5, (t11, t17))), ((m0, (m0_1, (m0_2, (m0_3, m0_4)))), (m1, (m2, (m3, (m3_1, (m3_2, (m3_3, m3_4)))))))) some = qbk_B4 n t4 t5 t11 t17 m0 m0_1 m0_2 m0_3 m0_4 m1 m2 m3 m3_1 m3_2 m3_3 m3_4 := by kernel_rfl
theorem qbk_f4 (n : Nat) : LoopFact tab (qbk_tbl n) (qbk_loops n) qbk_an [] n 4 qbk_l4 (qbk_L4 n) := ⟨[1, 4, 5, 6, 10, 11, 12, 17], (fun s => qbk_B4 n s.1.1 s.1.2.1 s.1.2.2.1 s.1.2.2.2 s.2.1.1 s.2.1.2.1 s.2.1.2.2.1 s.2.1.2.2.2.1 s.2.1.2.2.2.2 s.2.2.1 s.2.2.2.1 s.2.2.2.2.1 s.2.2.2.2.2.1 s.2.2.2.2.2.2.1 s.2.2.2.2.2.2.2.1 s.2.2.2.2.2.2.2.2), by kernel_rfl, by kernel_rfl, fun s => rfl, fun s => qbk_r4 n s.1.1 s.1.2.1 s.1.2.2.1 s.1.2.2.2 s.2.1.1 s.2.1.2.1 s.2.1.2.2.1 s.2.1.2.2.2.1 s.2.1.2.2.2.2 s.2.2.1 s.2.2.2.1 s.2.2.2.2.1 s.2.2.2.2.2.1 s.2.2.2.2.2.2.1 s.2.2.2.2.2.2.2.1 s.2.2.2.2.2.2.2.2⟩
theorem qbk_r2 (n : Nat) (t4 : Int) (t5 : Bool) (t11 : Int) (m0 : DG) (m0_1 : DH) (m0_2 : DI) (m0_3 : DC) (m0_4 : DD) (m1 : DC) (m2 : DC) : roundK (real _) tab (qbk_tbl n) (qbk_loops n) qbk_an [] qbk_l2 2 [1, 4, 5, 6, 10, 11] qbk_h2 qbk_o2 ((t4, (t5, t11)), ((m0, (m0_1, (m0_2, (m0_3, m0_4)))), (m1, m2))) some = qbk_B2 n t4 t5 t11 m0 m0_1 m0_2 m0_3 m0_4 m1 m2 := by kernel_rfl
theorem qbk_f2 (n : Nat) : LoopFact tab (qbk_tbl n) (qbk_loops n) qbk_an [] n 2 qbk_l2 (qbk_L2 n) := ⟨[1, 4, 5, 6, 10, 11], (fun s => qbk_B2 n s.1.1 s.1.2.1 s.1.2.2 s.2.1.1 s.2.1.2.1 s.2.1.2.2.1 s.2.1.2.2.2.1 s.2.1.2.2.2.2 s.2.2.1 s.2.2.2), by kernel_rfl, by kernel_rfl, fun s => rfl, fun s => qbk_r2 n s.1.1 s.1.2.1 s.1.2.2 s.2.1.1 s.2.1.2.1 s.2.1.2.2.1 s.2.1.2.2.2.1 s.2.1.2.2.2.2 s.2.2.1 s.2.2.2⟩
theorem qbk_r6 (n : Nat) (t4 : Int) (t5 : Bool) (t20 : Int) (m0 : DG) (m0_1 : DH) (m0_2 : DI) (m0_3 : DC) (m0_4 : DD) (m1 : DC) (m2 : DC) (m3 : DC) : roundK (real _) tab (qbk_tbl n) (qbk_loops n) qbk_an [] qbk_l6 6 [1, 4, 5, 6, 10, 19, 20] qbk_h6 qbk_o6 ((t4, (t5, t20)), ((m0, (m0_1, (m0_2, (m0_3, m0_4)))), (m1, (m2, m3)))) some = qbk_B6 n t4 t5 t20 m0 m0_1 m0_2 m0_3 m0_4 m1 m2 m3 := by kernel_rfl
theorem qbk_f6 (n : Nat) : LoopFact tab (qbk_tbl n) (qbk_loops n) qbk_an [] n 6 qbk_l6 (qbk_L6 n) := ⟨[1, 4, 5, 6, 10, 19, 20], (fun s => qbk_B6 n s.1.1 s.1.2.1 s.1.2.2 s.2.1.1 s.2.1.2.1 s.2.1.2.2.1 s.2.1.2.2.2.1 s.2.1.2.2.2.2 s.2.2.1 s.2.2.2.1 s.2.2.2.2), by kernel_rfl, by kernel_rfl, fun s => rfl, fun s => qbk_r6 n s.1.1 s.1.2.1 s.1.2.2 s.2.1.1 s.2.1.2.1 s.2.1.2.2.1 s.2.1.2.2.2.1 s.2.1.2.2.2.2 s.2.2.1 s.2.2.2.1 s.2.2.2.2⟩
theorem qbk_r8 (n : Nat) (t5 : Bool) (t24 : Int) (m0 : DG) (m0_1 : DH) (m0_2 : DI) (m0_3 : DC) (m0_4 : DD) (m1 : DC) (m2 : DC) (m3 : DC) (m4 : DC) : roundK (real _) tab (qbk_tbl n) (qbk_loops n) qbk_an [] qbk_l8 8 [1, 5, 6, 10, 19, 23, 24] qbk_h8 qbk_o8 ((t5, t24), ((m0, (m0_1, (m0_2, (m0_3, m0_4)))), (m1, (m2, (m3, m4))))) some = qbk_B8 n t5 t24 m0 m0_1 m0_2 m0_3 m0_4 m1 m2 m3 m4 := by kernel_rfl
theorem qbk_f8 (n : Nat) : LoopFact tab (qbk_tbl n) (qbk_loops n) qbk_an [] n 8 qbk_l8 (qbk_L8 n) := ⟨[1, 5, 6, 10, 19, 23, 24], (fun s => qbk_B8 n s.1.1 s.1.2 s.2.1.1 s.2.1.2.1 s.2.1.2.2.1 s.2.1.2.2.2.1 s.2.1.2.2.2.2 s.2.2.1 s.2.2.2.1 s.2.2.2.2.1 s.2.2.2.2.2), by kernel_rfl, by kernel_rfl, fun s => rfl, fun s => qbk_r8 n s.1.1 s.1.2 s.2.1.1 s.2.1.2.1 s.2.1.2.2.1 s.2.1.2.2.2.1 s.2.1.2.2.2.2 s.2.2.1 s.2.2.2.1 s.2.2.2.2.1 s.2.2.2.2.2⟩
theorem qbk_r10 (n : Nat) (t5 : Bool) (t26 : Int) (m0 : DG) (m0_1 : DH) (m0_2 : DI) (m0_3 : DC) (m0_4 : DD) (m1 : DC) (m2 : DC) (m3 : DC) (m4 : DC) (m5 : DC) : roundK (real _) tab (qbk_tbl n) (qbk_loops n) qbk_an [] qbk_l10 10 [1, 5, 6, 10, 19, 23, 25, 26] qbk_h10 qbk_o10 ((t5, t26), ((m0, (m0_1, (m0_2, (m0_3, m0_4)))), (m1, (m2, (m3, (m4, m5)))))) some = qbk_B10 n t5 t26 m0 m0_1 m0_2 m0_3 m0_4 m1 m2 m3 m4 m5 := by kernel_rfl
theorem qbk_f10 (n : Nat) : LoopFact tab (qbk_tbl n) (qbk_loops n) qbk_an [] n 10 qbk_l10 (qbk_L10 n) := ⟨[1, 5, 6, 10, 19, 23, 25, 26], (fun s => qbk_B10 n s.1.1 s.1.2 s.2.1.1 s.2.1.2.1 s.2.1.2.2.1 s.2.1.2.2.2.1 s.2.1.2.2.2.2 s.2.2.1 s.2.2.2.1 s.2.2.2.2.1 s.2.2.2.2.2.1 s.2.2.2.2.2.2), by kernel_rfl, by kernel_rfl, fun s => rfl, fun s => qbk_r10 n s.1.1 s.1.2 s.2.1.1 s.2.1.2.1 s.2.1.2.2.1 s.2.1.2.2.2.1 s.2.1.2.2.2.2 s.2.2.1 s.2.2.2.1 s.2.2.2.2.1 s.2.2.2.2.2.1 s.2.2.2.2.2.2⟩
theorem qbk_run (n : Nat) (t0 : DG) (t0_1 : DH) (t0_2 : DI) (t0_3 : DC) (t0_4 : DD) : funDS (real _) tab (qbk_tbl n) (qbk_loops n) qbk_an Try.f21 0 qbk_a qbk_res (t0, (t0_1, (t0_2, (t0_3, t0_4)))) some = qbk n t0 t0_1 t0_2 t0_3 t0_4 := by kernel_rfl
def qbk_E (n : Nat) : Entry := ⟨qbk_a, qbk_res, fun d => qbk n d.1 d.2.1 d.2.2.1 d.2.2.2.1 d.2.2.2.2⟩
theorem qbk_ok (n : Nat) : EOK Try.prog 21 (qbk_E n) :=
 EOK.ofS prog_names prog_mixed tab_ok (tbl := qbk_tbl n) (loops := qbk_loops n) (an := qbk_an) (old := []) (n := n) (c := qbk_c) (fn := Try.f21) (TblOK.cons (AllE.cons (qch_ok n) AllE.nil) (TblOK.cons (AllE.cons (qbv_ok n) AllE.nil) (TblOK.cons (AllE.cons (qcb_ok n) AllE.nil) (TblOK.cons (AllE.cons (qce_ok n) AllE.nil) (TblOK.cons (AllE.cons (qbw_ok n) AllE.nil) (TblOK.cons (AllE.cons (qbu_ok n) AllE.nil) (TblOK.cons (AllE.cons (qcd_ok n) AllE.nil) TblOK.nil))))))) (by kernel_rfl) (by kernel_rfl) (by kernel_rfl) (by kernel_rfl) (fun d => by kernel_rfl) (LT.cons (by kernel_rfl) (qbk_f0 n) (LT.cons (by kernel_rfl) (qbk_f4 n) (LT.cons (by kernel_rfl) (qbk_f2 n) (LT.cons (by kernel_rfl) (qbk_f6 n) (LT.cons (by kernel_rfl) (qbk_f8 n) (LT.cons (by kernel_rfl) (qbk_f10 n) LT.nil)))))) (fun a => qbk_run n a.1 a.2.1 a.2.2.1 a.2.2.2.1 a.2.2.2.2)
def qcf_an : Ann := { live := [(0, [0, 1, 5])] }
def qcf_c : Code := (match Try.f24.body with | some c => c | none => .skip)
def qcf_l0 : Code := (match assoc 0 (loopsIn qcf_c 0) with | some c => c | none => .skip)
def qcf_a : StSh := ⟨.normal, [0, 1], (.cons (.sl true false (.int .u8)) (.cons (.sl true false (.int .u8)) .nil)), .nil⟩
def qcf_h0 : List StSh := [⟨.normal, [0, 1, 5], (.cons (.sl true false (.int .u8)) (.cons (.sl true false (.int .u8)) (.cons (.int .i64) .nil))), .nil⟩]
def qcf_o0 : List StSh := [⟨.ret, [4], (.cons .bool .nil), .nil⟩, ⟨.exit 0, [], .nil, .nil⟩]
def qcf_L0 (n : Nat) : LEntry := ⟨qcf_h0, qcf_o0, qcf_W0 n⟩
def qcf_res : List StSh := [⟨.ret, [0], (.cons .bool .nil), .nil⟩]
def qcf_tbl (n : Nat) : FuncId → List Entry := fun f => []
def qcf_loops (n : Nat) : Nat → Option LEntry := fun f => bif Nat.beq f 0 then some (qcf_L0 n) else none
theorem qcf_r0 (n : Nat) (a_0 : DC) (b_1 : DC) (i_5 : Int) : roundK (real _) tab (qcf_tbl n) (qcf_loops n) qcf_an [] qcf_l0 0 [0, 1, 5] qcf_h0 qcf_o0 (a_0, (b_1, i_5)) some = qcf_B0 n a_0 b_1 i_5 := by kernel_rfl
theorem qcf_f0 (n : Nat) : LoopFact tab (qcf_tbl n) (qcf_loops n) qcf_an [] n 0 qcf_l0 (qcf_L0 n) := ⟨[0, 1, 5], (fun s => qcf_B0 n s.1 s.2.1 s.2.2), by kernel_rfl, by kernel_rfl, fun s => rfl, fun s => qcf_r0 n s.1 s.2.1 s.2.2⟩
theorem qcf_run (n : Nat) (a_0 : DC) (b_1 : DC) : funDS (real _) tab (qcf_tbl n) (qcf_loops n) qcf_an Try.f24 0 qcf_a qcf_res (a_0, b_1) some = qcf n a_0 b_1 := by kernel_rfl
def qcf_E (n : Nat) : Entry := ⟨qcf_a, qcf_res, fun d => qcf n d.1 d.2⟩
theorem qcf_ok (n : Nat) : EOK Try.prog 24 (qcf_E n) :=
 EOK.ofS prog_names prog_mixed tab_ok (tbl := qcf_tbl n) (loops := qcf_loops n) (an := qcf_an) (old := []) (n := n) (c := qcf_c) (fn := Try.f24) TblOK.nil (by kernel_rfl) (by kernel_rfl) (by kernel_rfl) (by kernel_rfl) (fun d => by kernel_rfl) (LT.cons (by kernel_rfl) (qcf_f0 n) LT.nil) (fun a => qcf_run n a.1 a.2)
def qw_an : Ann := { live := [(0, [2, 3, 5]), (2, [2, 3, 6]), (4, [2, 3, 6, 7, 8, 9]), (6, [2, 3, 10]), (8, [2, 3, 11]), (10, [2, 3, 12])] }
def qw_c : Code := (match Try.f25.body with | some c => c | none => .skip)
def qw_l0 : Code := (match assoc 0 (loopsIn qw_c 0) with | some c => c | none => .skip)
def qw_l2 : Code := (match assoc 2 (loopsIn qw_c 0) with | some c => c | none => .skip)
def qw_l4 : Code := (match assoc 4 (loopsIn qw_c 0) with | some c => c | none => .skip)
def qw_l6 : Code := (match assoc 6 (loopsIn qw_c 0) with | some c => c | none => .skip)
def qw_l8 : Code := (match assoc 8 (loopsIn qw_c 0) with | some c => c | none => .skip)
def qw_l10 : Code := (match assoc 10 (loopsIn qw_c 0) with | some c => c | none => .skip)
def qw_a : StSh := ⟨.normal, [0, 1], (.cons (.agg (.cons (.sl true false yA) (.cons (.sl true true yB) (.cons (.sl true true yC) (.cons (.sl true false (.int .u64)) (.cons (.sl true false .str) .nil)))))) (.cons (.agg (.cons (.sl true false yA) (.cons (.sl true true yB) (.cons (.sl true true yC) (.cons (.sl true false (.int .u64)) (.cons (.sl true false .str) .nil)))))) .nil)), .nil⟩
def qbg_an : Ann := { live := [(0, [0, 1, 5])] }
def qbg_c : Code := (match Try.f72.body with | some c => c | none => .skip)
def qbg_l0 : Code := (match assoc 0 (loopsIn qbg_c 0) with | some c => c | none => .skip)
def qbg_a : StSh := ⟨.normal, [0, 1], (.cons (.sl true true yD) (.cons (.sl true true yD) .nil)), .nil⟩
def qbg_h0 : List StSh := [⟨.normal, [0, 1, 5], (.cons (.sl true true yD) (.cons (.sl true true yD) (.cons (.int .i64) .nil))), .nil⟩]
def qbg_o0 : List StSh := [⟨.ret, [4], (.cons .bool .nil), .nil⟩, ⟨.exit 0, [], .nil, .nil⟩]
def qbg_L0 (n : Nat) : LEntry := ⟨qbg_h0, qbg_o0, qbg_W0 n⟩
def qbg_res : List StSh := [⟨.ret, [0], (.cons .bool .nil), .nil⟩]
def qbg_tbl (n : Nat) : FuncId → List Entry := fun f => []
def qbg_loops (n : Nat) : Nat → Option LEntry := fun f => bif Nat.beq f 0 then some (qbg_L0 n) else none
theorem qbg_r0 (n : Nat) (a_0 : DA) (b_1 : DA) (i_5 : Int) : roundK (real _) tab (qbg_tbl n) (qbg_loops n) qbg_an [] qbg_l0 0 [0, 1, 5] qbg_h0 qbg_o0 (a_0, (b_1, i_5)) some = qbg_B0 n a_0 b_1 i_5 := by kernel_rfl
theorem qbg_f0 (n : Nat) : LoopFact tab (qbg_tbl n) (qbg_loops n) qbg_an [] n 0 qbg_l0 (qbg_L0 n) := ⟨[0, 1, 5], (fun s => qbg_B0 n s.1 s.2.1 s.2.2), by kernel_rfl, by kernel_rfl, fun s => rfl, fun s => qbg_r0 n s.1 s.2.1 s.2.2⟩
theorem qbg_run (n : Nat) (a_0 : DA) (b_1 : DA) : funDS (real _) tab (qbg_tbl n) (qbg_loops n) qbg_an Try.f72 0 qbg_a qbg_res (a_0, b_1) some = qbg n a_0 b_1 := by kernel_rfl
def qbg_E (n : Nat) : Entry := ⟨qbg_a, qbg_res, fun d => qbg n d.1 d.2⟩
theorem qbg_ok (n : Nat) : EOK Try.prog 72 (qbg_E n) :=
 EOK.ofS prog_names prog_mixed tab_ok (tbl := qbg_tbl n) (loops := qbg_loops n) (an := qbg_an) (old := []) (n := n) (c := qbg_c) (fn := Try.f72) TblOK.nil (by kernel_rfl) (by kernel_rfl) (by kernel_rfl) (by kernel_rfl) (fun d => by kernel_rfl) (LT.cons (by kernel_rfl) (qbg_f0 n) LT.nil) (fun a => qbg_run n a.1 a.2)
def qw_h0 : List StSh := [⟨.normal, [2, 3, 5], (.cons (.ptr 0 0 0 0) (.cons (.ptr 1 0 0 0) (.cons (.int .i64) .nil))), (.cons (.bcells 0 false 1 (.cons (.sl true false yA) (.cons (.sl true true yB) (.cons (.sl true true yC) (.cons (.sl true false (.int .u64)) (.cons (.sl true false .str) .nil)))))) (.cons (.bcells 0 false 1 (.cons (.sl true false yA) (.cons (.sl true true yB) (.cons (.sl true true yC) (.cons (.sl true false (.int .u64)) (.cons (.sl true false .str) .nil)))))) .nil))⟩]
def qw_o0 : List StSh := [⟨.ret, [4], (.cons .bool .nil), (.cons (.bcells 0 false 1 (.cons (.sl true false yA) (.cons (.sl true true yB) (.cons (.sl true true yC) (.cons (.sl true false (.int .u64)) (.cons (.sl true false .str) .nil)))))) (.cons (.bcells 0 false 1 (.cons (.sl true false yA) (.cons (.sl true true yB) (.cons (.sl true true yC) (.cons (.sl true false (.int .u64)) (.cons (.sl true false .str) .nil)))))) .nil))⟩, ⟨.exit 0, [2, 3], (.cons (.ptr 0 0 0 0) (.cons (.ptr 1 0 0 0) .nil)), (.cons (.bcells 0 false 1 (.cons (.sl true false yA) (.cons (.sl true true yB) (.cons (.sl true true yC) (.cons (.sl true false (.int .u64)) (.cons (.sl true false .str) .nil)))))) (.cons (.bcells 0 false 1 (.cons (.sl true false yA) (.cons (.sl true true yB) (.cons (.sl true true yC) (.cons (.sl true false (.int .u64)) (.cons (.sl true false .str) .nil)))))) .nil))⟩]
def qw_L0 (n : Nat) : LEntry := ⟨qw_h0, qw_o0, qw_W0 n⟩
def qw_h4 : List StSh := [⟨.normal, [2, 3, 6, 7, 8, 9], (.cons (.ptr 0 0 0 0) (.cons (.ptr 1 0 0 0) (.cons (.int .i64) (.cons (.ptr 2 0 0 0) (.cons (.ptr 3 0 0 0) (.cons (.int .i64) .nil)))))), (.cons (.bcells 0 false 1 (.cons (.sl true false yA) (.cons (.sl true true yB) (.cons (.sl true true yC) (.cons (.sl true false (.int .u64)) (.cons (.sl true false .str) .nil)))))) (.cons (.bcells 0 false 1 (.cons (.sl true false yA) (.cons (.sl true true yB) (.cons (.sl true true yC) (.cons (.sl true false (.int .u64)) (.cons (.sl true false .str) .nil)))))) (.cons (.bcells 0 false 1 (.cons (.sl true true yD) (.cons (.int .i64) (.cons (.int .i64) (.cons (.sl true true yD) (.cons (.sl true true yE) .nil)))))) (.cons (.bcells 0 false 1 (.cons (.sl true true yD) (.cons (.int .i64) (.cons (.int .i64) (.cons (.sl true true yD) (.cons (.sl true true yE) .nil)))))) .nil))))⟩]
def qw_o4 : List StSh := [⟨.ret, [4], (.cons .bool .nil), (.cons (.bcells 0 false 1 (.cons (.sl true false yA) (.cons (.sl true true yB) (.cons (.sl true true yC) (.cons (.sl true false (.int .u64)) (.cons (.sl true false .str) .nil)))))) (.cons (.bcells 0 false 1 (.cons (.sl true false yA) (.cons (.sl true true yB) (.cons (.sl true true yC) (.cons (.sl true false (.int .u64)) (.cons (.sl true false .str) .nil)))))) (.cons (.bcells 0 false 1 (.cons (.sl true true yD) (.cons (.int .i64) (.cons (.int .i64) (.cons (.sl true true yD) (.cons (.sl true true yE) .nil)))))) (.cons (.bcells 0 false 1 (.cons (.sl true true yD) (.cons (.int .i64) (.cons (.int .i64) (.cons (.sl true true yD) (.cons (.sl true true yE) .nil)))))) .nil))))⟩, ⟨.exit 4, [2, 3, 6], (.cons (.ptr 0 0 0 0) (.cons (.ptr 1 0 0 0) (.cons (.int .i64) .nil))), (.cons (.bcells 0 false 1 (.cons (.sl true false yA) (.cons (.sl true true yB) (.cons (.sl true true yC) (.cons (.sl true false (.int .u64)) (.cons (.sl true false .str) .nil)))))) (.cons (.bcells 0 false 1 (.cons (.sl true false yA) (.cons (.sl true true yB) (.cons (.sl true true yC) (.cons (.sl true false (.int .u64)) (.cons (.sl true false .str) .nil)))))) (.cons (.bcells 0 false 1 (.cons (.sl true true yD) (.cons (.int .i64) (.cons (.int .i64) (.cons (.sl true true yD) (.cons (.sl true true yE) .nil)))))) (.cons (.bcells 0 false 1 (.cons (.sl true true yD) (.cons (.int .i64) (.cons (.int .i64) (.cons (.sl true true yD) (.cons (.sl true true yE) .nil)))))) .nil))))⟩]
def qw_L4 (n : Nat) : LEntry := ⟨qw_h4, qw_o4, qw_W4 n⟩
def qw_h2 : List StSh := [⟨.normal, [2, 3, 6], (.cons (.ptr 0 0 0 0) (.cons (.ptr 1 0 0 0) (.cons (.int .i64) .nil))), (.cons (.bcells 0 false 1 (.cons (.sl true false yA) (.cons (.sl true true yB) (.cons (.sl true true yC) (.cons (.sl true false (.int .u64)) (.cons (.sl true false .str) .nil)))))) (.cons (.bcells 0 false 1 (.cons (.sl true false yA) (.cons (.sl true true yB) (.cons (.sl true true yC) (.cons (.sl true false (.int .u64)) (.cons (.sl true false .str) .nil)))))) .nil))⟩]
def qw_o2 : List StSh := [⟨.ret, [4], (.cons .bool .nil), (.cons (.bcells 0 false 1 (.cons (.sl true false yA) (.cons (.sl true true yB) (.cons (.sl true true yC) (.cons (.sl true false (.int .u64)) (.cons (.sl true false .str) .nil)))))) (.cons (.bcells 0 false 1 (.cons (.sl true false yA) (.cons (.sl true true yB) (.cons (.sl true true yC) (.cons (.sl true false (.int .u64)) (.cons (.sl true false .str) .nil)))))) (.cons (.bcells 0 false 1 (.cons (.sl true true yD) (.cons (.int .i64) (.cons (.int .i64) (.cons (.sl true true yD) (.cons (.sl true true yE) .nil)))))) (.cons (.bcells 0 false 1 (.cons (.sl true true yD) (.cons (.int .i64) (.cons (.int .i64) (.cons (.sl true true yD) (.cons (.sl true true yE) .nil)))))) .nil))))⟩, ⟨.exit 2, [2, 3], (.cons (.ptr 0 0 0 0) (.cons (.ptr 1 0 0 0) .nil)), (.cons (.bcells 0 false 1 (.cons (.sl true false yA) (.cons (.sl true true yB) (.cons (.sl true true yC) (.cons (.sl true false (.int .u64)) (.cons (.sl true false .str) .nil)))))) (.cons (.bcells 0 false 1 (.cons (.sl true false yA) (.cons (.sl true true yB) (.cons (.sl true true yC) (.cons (.sl true false (.int .u64)) (.cons (.sl true false .str) .nil)))))) .nil))⟩]
def qw_L2 (n : Nat) : LEntry := ⟨qw_h2, qw_o2, qw_W2 n⟩
def qw_h6 : List StSh := [⟨.normal, [2, 3, 10], (.cons (.ptr 0 0 0 0) (.cons (.ptr 1 0 0 0) (.cons (.int .i64) .nil))), (.cons (.bcells 0 false 1 (.cons (.sl true false yA) (.cons (.sl true true yB) (.cons (.sl true true yC) (.cons (.sl true false (.int .u64)) (.cons (.sl true false .str) .nil)))))) (.cons (.bcells 0 false 1 (.cons (.sl true false yA) (.cons (.sl true true yB) (.cons (.sl true true yC) (.cons (.sl true false (.int .u64)) (.cons (.sl true false .str) .nil)))))) .nil))⟩]
def qw_o6 : List StSh := [⟨.ret, [4], (.cons .bool .nil), (.cons (.bcells 0 false 1 (.cons (.sl true false yA) (.cons (.sl true true yB) (.cons (.sl true true yC) (.cons (.sl true false (.int .u64)) (.cons (.sl true false .str) .nil)))))) (.cons (.bcells 0 false 1 (.cons (.sl true false yA) (.cons (.sl true true yB) (.cons (.sl true true yC) (.cons (.sl true false (.int .u64)) (.cons (.sl true false .str) .nil)))))) .nil))⟩, ⟨.exit 6, [2, 3], (.cons (.ptr 0 0 0 0) (.cons (.ptr 1 0 0 0) .nil)), (.cons (.bcells 0 false 1 (.cons (.sl true false yA) (.cons (.sl true true yB) (.cons (.sl true true yC) (.cons (.sl true false (.int .u64)) (.cons (.sl true false .str) .nil)))))) (.cons (.bcells 0 false 1 (.cons (.sl true false yA) (.cons (.sl true true yB) (.cons (.sl true true yC) (.cons (.sl true false (.int .u64)) (.cons (.sl true false .str) .nil)))))) .nil))⟩]
def qw_L6 (n : Nat) : LEntry := ⟨qw_h6, qw_o6, qw_W6 n⟩
def qw_h8 : List StSh := [⟨.normal, [2, 3, 11], (.cons (.ptr 0 0 0 0) (.cons (.ptr 1 0 0 0) (.cons (.int .i64) .nil))), (.cons (.bcells 0 false 1 (.cons (.sl true false yA) (.cons (.sl true true yB) (.cons (.sl true true yC) (.cons (.sl true false (.int .u64)) (.cons (.sl true false .str) .nil)))))) (.cons (.bcells 0 false 1 (.cons (.sl true false yA) (.cons (.sl true true yB) (.cons (.sl true true yC) (.cons (.sl true false (.int .u64)) (.cons (.sl true false .str) .nil)))))) .nil))⟩]
def qw_o8 : List StSh := [⟨.ret, [4], (.cons .bool .nil), (.cons (.bcells 0 false 1 (.cons (.sl true false yA) (.cons (.sl true true yB) (.cons (.sl true true yC) (.cons (.sl true false (.int .u64)) (.cons (.sl true false .str) .nil)))))) (.cons (.bcells 0 false 1 (.cons (.sl true false yA) (.cons (.sl true true yB) (.cons (.sl true true yC) (.cons (.sl true false (.int .u64)) (.cons (.sl true false .str) .nil)))))) .nil))⟩, ⟨.exit 8, [2, 3], (.cons (.ptr 0 0 0 0) (.cons (.ptr 1 0 0 0) .nil)), (.cons (.bcells 0 false 1 (.cons (.sl true false yA) (.cons (.sl true true yB) (.cons (.sl true true yC) (.cons (.sl true false (.int .u64)) (.cons (.sl true false .str) .nil)))))) (.cons (.bcells 0 false 1 (.cons (.sl true false yA) (.cons (.sl true true yB) (.cons (.sl true true yC) (.cons (.sl true false (.int .u64)) (.cons (.sl true false .str) .nil)))))) .nil))⟩]
def qw_L8 (n : Nat) : LEntry := ⟨qw_h8, qw_o8, qw_W8 n⟩
def qw_h10 : List StSh := [⟨.normal, [2, 3, 12], (.cons (.ptr 0 0 0 0) (.cons (.ptr 1 0 0 0) (.cons (.int .i64) .nil))), (.cons (.bcells 0 false 1 (.cons (.sl true false yA) (.cons (.sl true true yB) (.cons (.sl true true yC) (.cons (.sl true false (.int .u64)) (.cons (.sl true false .str) .nil)))))) (.cons (.bcells 0 false 1 (.cons (.sl true false yA) (.cons (.sl true true yB) (.cons (.sl true true yC) (.cons (.sl true false (.int .u64)) (.cons (.sl true false .str) .nil)))))) .nil))⟩]
def qw_o10 : List StSh := [⟨.ret, [4], (.cons .bool .nil), (.cons (.bcells 0 false 1 (.cons (.sl true false yA) (.cons (.sl true true yB) (.cons (.sl true true yC) (.cons (.sl true false (.int .u64)) (.cons (.sl true false .str) .nil)))))) (.cons (.bcells 0 false 1 (.cons (.sl true false yA) (.cons (.sl true true yB) (.cons (.sl true true yC) (.cons (.sl true false (.int .u64)) (.cons (.sl true false .str) .nil)))))) .nil))⟩, ⟨.exit 10, [], .nil, (.cons (.bcells 0 false 1 (.cons (.sl true false yA) (.cons (.sl true true yB) (.cons (.sl true true yC) (.cons (.sl true false (.int .u64)) (.cons (.sl true false .str) .nil)))))) (.cons (.bcells 0 false 1 (.cons (.sl true false yA) (.cons (.sl true true yB) (.cons (.sl true true yC) (.cons (.sl true false (.int .u64)) (.cons (.sl true false .str) .nil)))))) .nil))⟩]
def qw_L10 (n : Nat) : LEntry := ⟨qw_h10, qw_o10, qw_W10 n⟩
def qw_res : List StSh := [⟨.ret, [0], (.cons .bool .nil), .nil⟩]
def qw_tbl (n : Nat) : FuncId → List Entry := fun f => bif Nat.beq f 72 then [qbg_E n] else []
def qw_loops (n : Nat) : Nat → Option LEntry := fun f => bif Nat.beq f 0 then some (qw_L0 n) else bif Nat.beq f 4 then some (qw_L4 n) else bif Nat.beq f 2 then some (qw_L2 n) else bif Nat.beq f 6 then some (qw_L6 n) else bif Nat.beq f 8 then some (qw_L8 n) else bif Nat.beq f 10 then some (qw_L10 n) else none
theorem qw_r0 (n : Nat) (t5 : Int) (m0 : DG) (m0_1 : DH) (m0_2 : DI) (m0_3 : DC) (m0_4 : DD) (m1 : DG) (m1_1 : DH) (m1_2 : DI) (m1_3 : DC) (m1_4 : DD) : roundK (real _) tab (qw_tbl n) (qw_loops n) qw_an [] qw_l0 0 [2, 3, 5] qw_h0 qw_o0 (t5, ((m0, (m0_1, (m0_2, (m0_3, m0_4)))), (m1, (m1_1, (m1_2, (m1_3, m1_4)))))) some = qw_B0 n t5 m0 m0_1 m0_2 m0_3 m0_4 m1 m1_1 m1_2 m1_3 m1_4 := by kernel_rfl
theorem qw_f0 (n : Nat) : LoopFact tab (qw_tbl n) (qw_loops n) qw_an [] n 0 qw_l0 (qw_L0 n) := ⟨[2, 3, 5], (fun s => qw_B0 n s.1 s.2.1.1 s.2.1.2.1 s.2.1.2.2.1 s.2.1.2.2.2.1 s.2.1.2.2.2.2 s.2.2.1 s.2.2.2.1 s.2.2.2.2.1 s.2.2.2.2.2.1 s.2.2.2.2.2.2), by kernel_rfl, by kernel_rfl, fun s => rfl, fun s => qw_r0 n s.1 s.2.1.1 s.2.1.2.1 s.2.1.2.2.1 s.2.1.2.2.2.1 s.2.1.2.2.2.2 s.2.2.1 s.2.2.2.1 s.2.2.2.2.1 s.2.2.2.2.2.1 s.2.2.2.2.2.2⟩
theorem qw_r4 (n : Nat) (t6 : Int) (t9 : Int) (m0 : DG) (m0_1 : DH) (m0_2 : DI) (m0_3 : DC) (m0_4 : DD) (m1 : DG) (m1_1 : DH) (m1_2 : DI) (m1_3 : DC) (m1_4 : DD) (m2 : DA) (m2_1 : Int) (m2_2 : Int) (m2_3 : DA) (m2_4 : DB) (m3 : DA) (m3_1 : Int) (m3_2 : Int) (m3_3 : DA) (m3_4 : DB) : roundK (real _) tab (qw_tbl n) (qw_loops n) qw_an [] qw_l4 4 [2, 3, 6, 7, 8, 9] qw_h4 qw_o4 ((t6, t9), ((m0, (m0_1, (m0_2, (m0_3, m0_4)))), ((m1, (m1_1, (m1_2, (m1_3, m1_4)))), ((m2, (m2_1, (m2_2, (m2_3, m2_4)))), (m3, (m3_1, (m3_2, (m3_3, m3_4)))))))) some = qw_B4 n t6 t9 m0 m0_1 m0_2 m0_3 m0_4 m1 m1_1 m1_2 m1_3 m1_4 m2 m2_1 m2_2 m2_3 m2_4 m3 m3_1 m3_2 m3_3 m3_4 := by kernel_rfl
theorem qw_f4 (n : Nat) : LoopFact tab (qw_tbl n) (qw_loops n) qw_an [] n 4 qw_l4 (qw_L4 n) := ⟨[2, 3, 6, 7, 8, 9], (fun s => qw_B4 n s.1.1 s.1.2 s.2.1.1 s.2.1.2.1 s.2.1.2.2.1 s.2.1.2.2.2.1 s.2.1.2.2.2.2 s.2.2.1.1 s.2.2.1.2.1 s.2.2.1.2.2.1 s.2.2.1.2.2.2.1 s.2.2.1.2.2.2.2 s.2.2.2.1.1 s.2.2.2.1.2.1 s.2.2.2.1.2.2.1 s.2.2.2.1.2.2.2.1 s.2.2.2.1.2.2.2.2 s.2.2.2.2.1 s.2.2.2.2.2.1 s.2.2.2.2.2.2.1 s.2.2.2.2.2.2.2.1 s.2.2.2.2.2.2.2.2), by kernel_rfl, by kernel_rfl, fun s => rfl, fun s => qw_r4 n s.1.1 s.1.2 s.2.1.1 s.2.1.2.1 s.2.1.2.2.1 s.2.1.2.2.2.1 s.2.1.2.2.2.2 s.2.2.1.1 s.2.2.1.2.1 s.2.2.1.2.2.1 s.2.2.1.2.2.2.1 s.2.2.1.2.2.2.2 s.2.2.2.1.1 s.2.2.2.1.2.1 s.2.2.2.1.2.2.1 s.2.2.2.1.2.2.2.1 s.2.2.2.1.2.2.2.2 s.2.2.2.2.1 s.2.2.2.2.2.1 s.2.2.2.2.2.2.1 s.2.2.2.2.2.2.2.1 s.2.2.2.2.2.2.2.2⟩
theorem qw_r2 (n : Nat) (t6 : Int) (m0 : DG) (m0_1 : DH) (m0_2 : DI) (m0_3 : DC) (m0_4 : DD) (m1 : DG) (m1_1 : DH) (m1_2 : DI) (m1_3 : DC) (m1_4 : DD) : roundK (real _) tab (qw_tbl n) (qw_loops n) qw_an [] qw_l2 2 [2, 3, 6] qw_h2 qw_o2 (t6, ((m0, (m0_1, (m0_2, (m0_3, m0_4)))), (m1, (m1_1, (m1_2, (m1_3, m1_4)))))) some = qw_B2 n t6 m0 m0_1 m0_2 m0_3 m0_4 m1 m1_1 m1_2 m1_3 m1_4 := by kernel_rfl
theorem qw_f2 (n : Nat) : LoopFact tab (qw_tbl n) (qw_loops n) qw_an [] n 2 qw_l2 (qw_L2 n) := ⟨[2, 3, 6], (fun s => qw_B2 n s.1 s.2.1.1 s.2.1.2.1 s.2.1.2.2.1 s.2.1.2.2.2.1 s.2.1.2.2.2.2 s.2.2.1 s.2.2.2.1 s.2.2.2.2.1 s.2.2.2.2.2.1 s.2.2.2.2.2.2), by kernel_rfl, by kernel_rfl, fun s => rfl, fun s => qw_r2 n s.1 s.2.1.1 s.2.1.2.1 s.2.1.2.2.1 s.2.1.2.2.2.1 s.2.1.2.2.2.2 s.2.2.1 s.2.2.2.1 s.2.2.2.2.1 s.2.2.2.2.2.1 s.2.2.2.2.2.2⟩
theorem qw_r6 (n : Nat) (t10 : Int) (m0 : DG) (m0_1 : DH) (m0_2 : DI) (m0_3 : DC) (m0_4 : DD) (m1 : DG) (m1_1 : DH) (m1_2 : DI) (m1_3 : DC) (m1_4 : DD) : roundK (real _) tab (qw_tbl n) (qw_loops n) qw_an [] qw_l6 6 [2, 3, 10] qw_h6 qw_o6 (t10, ((m0, (m0_1, (m0_2, (m0_3, m0_4)))), (m1, (m1_1, (m1_2, (m1_3, m1_4)))))) some = qw_B6 n t10 m0 m0_1 m0_2 m0_3 m0_4 m1 m1_1 m1_2 m1_3 m1_4 := by kernel_rfl
theorem qw_f6 (n : Nat) : LoopFact tab (qw_tbl n) (qw_loops n) qw_an [] n 6 qw_l6 (qw_L6 n) := ⟨[2, 3, 10], (fun s => qw_B6 n s.1 s.2.1.1 s.2.1.2.1 s.2.1.2.2.1 s.2.1.2.2.2.1 s.2.1.2.2.2.2 s.2.2.1 s.2.2.2.1 s.2.2.2.2.1 s.2.2.2.2.2.1 s.2.2.2.2.2.2), by kernel_rfl, by kernel_rfl, fun s => rfl, fun s => qw_r6 n s.1 s.2.1.1 s.2.1.2.1 s.2.1.2.2.1 s.2.1.2.2.2.1 s.2.1.2.2.2.2 s.2.2.1 s.2.2.2.1 s.2.2.2.2.1 s.2.2.2.2.2.1 s.2.2.2.2.2.2⟩
theorem qw_r8 (n : Nat) (t11 : Int) (m0 : DG) (m0_1 : DH) (m0_2 : DI) (m0_3 : DC) (m0_4 : DD) (m1 : DG) (m1_1 : DH) (m1_2 : DI) (m1_3 : DC) (m1_4 : DD) : roundK (real _) tab (qw_tbl n) (qw_loops n) qw_an [] qw_l8 8 [2, 3, 11] qw_h8 qw_o8 (t11, ((m0, (m0_1, (m0_2, (m0_3, m0_4)))), (m1, (m1_1, (m1_2, (m1_3, m1_4)))))) some = qw_B8 n t11 m0 m0_1 m0_2 m0_3 m0_4 m1 m1_1 m1_2 m1_3 m1_4 := by kernel_rfl
theorem qw_f8 (n : Nat) : LoopFact tab (qw_tbl n) (qw_loops n) qw_an [] n 8 qw_l8 (qw_L8 n) := ⟨[2, 3, 11], (fun s => qw_B8 n s.1 s.2.1.1 s.2.1.2.1 s.2.1.2.2.1 s.2.1.2.2.2.1 s.2.1.2.2.2.2 s.2.2.1 s.2.2.2.1 s.2.2.2.2.1 s.2.2.2.2.2.1 s.2.2.2.2.2.2), by kernel_rfl, by kernel_rfl, fun s => rfl, fun s => qw_r8 n s.1 s.2.1.1 s.2.1.2.1 s.2.1.2.2.1 s.2.1.2.2.2.1 s.2.1.2.2.2.2 s.2.2.1 s.2.2.2.1 s.2.2.2.2.1 s.2.2.2.2.2.1 s.2.2.2.2.2.2⟩
theorem qw_r10 (n : Nat) (t12 : Int) (m0 : DG) (m0_1 : DH) (m0_2 : DI) (m0_3 : DC) (m0_4 : DD) (m1 : DG) (m1_1 : DH) (m1_2 : DI) (m1_3 : DC) (m1_4 : DD) : roundK (real _) tab (qw_tbl n) (qw_loops n) qw_an [] qw_l10 10 [2, 3, 12] qw_h10 qw_o10 (t12, ((m0, (m0_1, (m0_2, (m0_3, m0_4)))), (m1, (m1_1, (m1_2, (m1_3, m1_4)))))) some = qw_B10 n t12 m0 m0_1 m0_2 m0_3 m0_4 m1 m1_1 m1_2 m1_3 m1_4 := by kernel_rfl
theorem qw_f10 (n : Nat) : LoopFact tab (qw_tbl n) (qw_loops n) qw_an [] n 10 qw_l10 (qw_L10 n) := ⟨[2, 3, 12], (fun s => qw_B10 n s.1 s.2.1.1 s.2.1.2.1 s.2.1.2.2.1 s.2.1.2.2.2.1 s.2.1.2.2.2.2 s.2.2.1 s.2.2.2.1 s.2.2.2.2.1 s.2.2.2.2.2.1 s.2.2.2.2.2.2), by kernel_rfl, by kernel_rfl, fun s => rfl, fun s => qw_r10 n s.1 s.2.1.1 s.2.1.2.1 s.2.1.2.2.1 s.2.1.2.2.2.1 s.2.1.2.2.2.2 s.2.2.1 s.2.2.2.1 s.2.2.2.2.1 s.2.2.2.2.2.1 s.2.2.2.2.2.2⟩
theorem qw_run (n : Nat) (t0 : DG) (t0_1 : DH) (t0_2 : DI) (t0_3 : DC) (t0_4 : DD) (t1 : DG) (t1_1 : DH) (t1_2 : DI) (t1_3 : DC) (t1_4 : DD) : funDS (real _) tab (qw_tbl n) (qw_loops n) qw_an Try.f25 0 qw_a qw_res ((t0, (t0_1, (t0_2, (t0_3, t0_4)))), (t1, (t1_1, (t1_2, (t1_3, t1_4))))) some = qw n t0 t0_1 t0_2 t0_3 t0_4 t1 t1_1 t1_2 t1_3 t1_4 := by kernel_rfl
def qw_E (n : Nat) : Entry := ⟨qw_a, qw_res, fun d => qw n d.1.1 d.1.2.1 d.1.2.2.1 d.1.2.2.2.1 d.1.2.2.2.2 d.2.1 d.2.2.1 d.2.2.2.1 d.2.2.2.2.1 d.2.2.2.2.2⟩
theorem qw_ok (n : Nat) : EOK Try.prog 25 (qw_E n) :=
 EOK.ofS prog_names prog_mixed tab_ok (tbl := qw_tbl n) (loops := qw_loops n) (an := qw_an) (old := []) (n := n) (c := qw_c) (fn := Try.f25) (TblOK.cons (AllE.cons (qbg_ok n) AllE.nil) TblOK.nil) (by kernel_rfl) (by kernel_rfl) (by kernel_rfl) (by kernel_rfl) (fun d => by kernel_rfl) (LT.cons (by kernel_rfl) (qw_f0 n) (LT.cons (by kernel_rfl) (qw_f4 n) (LT.cons (by kernel_rfl) (qw_f2 n) (LT.cons (by kernel_rfl) (qw_f6 n) (LT.cons (by kernel_rfl) (qw_f8 n) (LT.cons (by kernel_rfl) (qw_f10 n) LT.nil)))))) (fun a => qw_run n a.1.1 a.1.2.1 a.1.2.2.1 a.1.2.2.2.1 a.1.2.2.2.2 a.2.1 a.2.2.1 a.2.2.2.1 a.2.2.2.2.1 a.2.2.2.2.2)
def qu_an : Ann := {}
def qu_c : Code := (match Try.f8.body with | some c => c | none => .skip)
def qu_a : StSh := ⟨.normal, [0], (.cons (.sl true false (.int .u8)) .nil), .nil⟩
def qu_res : List StSh := [⟨.ret, [0], (.cons .bool .nil), .nil⟩]
def qu_tbl (n : Nat) : FuncId → List Entry := fun f => bif Nat.beq f 19 then [qbd_E n] else bif Nat.beq f 23 then [qbf_E n] else bif Nat.beq f 25 then [qw_E n] else bif Nat.beq f 21 then [qbk_E n] else bif Nat.beq f 24 then [qcf_E n] else []
def qu_loops (n : Nat) : Nat → Option LEntry := fun f => none
theorem qu_run (n : Nat) (b_0 : DC) : funDS (real _) tab (qu_tbl n) (qu_loops n) qu_an Try.f8 0 qu_a qu_res b_0 some = qu n b_0 := by kernel_rfl
def qu_E (n : Nat) : Entry := ⟨qu_a, qu_res, fun d => qu n d⟩
theorem qu_ok (n : Nat) : EOK Try.prog 8 (qu_E n) :=
 EOK.ofS prog_names prog_mixed tab_ok (tbl := qu_tbl n) (loops := qu_loops n) (an := qu_an) (old := []) (n := n) (c := qu_c) (fn := Try.f8) (TblOK.cons (AllE.cons (qbd_ok n) AllE.nil) (TblOK.cons (AllE.cons (qbf_ok n) AllE.nil) (TblOK.cons (AllE.cons (qw_ok n) AllE.nil) (TblOK.cons (AllE.cons (qbk_ok n) AllE.nil) (TblOK.cons (AllE.cons (qcf_ok n) AllE.nil) TblOK.nil))))) (by kernel_rfl) (by kernel_rfl) (by kernel_rfl) (by kernel_rfl) (fun d => by kernel_rfl) LT.nil (fun a => qu_run n a)
end
end Sx
