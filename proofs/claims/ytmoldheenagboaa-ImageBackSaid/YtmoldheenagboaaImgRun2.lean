import Derived.Test.YtmoldheenagboaaProg
import Derived.Test.YtmoldheenagboaaLib32
import Derived.Test.YtmoldheenagboaaImgFixB
import Derived.KernelRfl
open Go Go.Ab Go.Proofs
set_option linter.unusedVariables false
set_option maxRecDepth 20000
namespace Sx
noncomputable section
def qbj_res : List StSh := [⟨.ret, [0], (.cons (.tup (.cons .nilP (.cons (.int .u32) (.cons (.int .i64) .nil)))) .nil), .nil⟩, ⟨.ret, [0], (.cons (.tup (.cons (.ptr 0 0 0 0) (.cons (.int .u32) (.cons (.int .i64) .nil)))) .nil), (.cons (.bcells 0 false 1 (.cons (.sl false false (.int .u8)) (.cons .bool .nil))) .nil)⟩]
def qbj_tbl (n : Nat) : FuncId → List Entry := fun f => bif Nat.beq f 72 then [qcf_E n] else bif Nat.beq f 73 then [qbc_E n] else bif Nat.beq f 74 then [qai_E n] else bif Nat.beq f 55 then [qbg_E n] else []
def qbj_loops (n : Nat) : Nat → Option LEntry := fun f => none
theorem qbj_run (n : Nat) (b_0 : DA) (first_1 : Int) : funDS (real _) tab (qbj_tbl n) (qbj_loops n) qbj_an Try.f38 0 qbj_a qbj_res (b_0, first_1) some = qbj n b_0 first_1 := by kernel_rfl
def qbj_E (n : Nat) : Entry := ⟨qbj_a, qbj_res, fun d => qbj n d.1 d.2⟩
theorem qbj_ok (n : Nat) : EOK Try.prog 38 (qbj_E n) :=
 EOK.ofS zc zb ze (tbl := qbj_tbl n) (loops := qbj_loops n) (an := qbj_an) (old := []) (n := n) (c := qbj_c) (fn := Try.f38) (TblOK.cons (AllE.cons (qcf_ok n) AllE.nil) (TblOK.cons (AllE.cons (qbc_ok n) AllE.nil) (TblOK.cons (AllE.cons (qai_ok n) AllE.nil) (TblOK.cons (AllE.cons (qbg_ok n) AllE.nil) TblOK.nil)))) (by kernel_rfl) (by kernel_rfl) (by kernel_rfl) (by kernel_rfl) (fun d => by kernel_rfl) LT.nil (fun a => qbj_run n a.1 a.2)
def qaj_an : Ann := {}
def qaj_c : Code := (match Try.f39.body with | some c => c | none => .skip)
def qaj_a : StSh := ⟨.normal, [0], (.cons (.ptr 0 0 0 0) .nil), (.cons (.bcells 0 false 1 (.cons .nilP (.cons .bool .nil))) .nil)⟩
def qbf_an : Ann := { live := [(0, [0, 3, 4])] }
def qbf_c : Code := (match Try.f40.body with | some c => c | none => .skip)
def qbf_l0 : Code := (match assoc 0 (loopsIn qbf_c 0) with | some c => c | none => .skip)
def qbf_a : StSh := ⟨.normal, [0], (.cons .nilP .nil), .nil⟩
def qz_an : Ann := {}
def qz_c : Code := (match Try.f75.body with | some c => c | none => .skip)
def qz_a : StSh := ⟨.normal, [0, 1], (.cons .nilP (.cons (.int .i64) .nil)), .nil⟩
def qas_an : Ann := {}
def qas_c : Code := (match Try.f55.body with | some c => c | none => .skip)
def qas_a : StSh := ⟨.normal, [0], (.cons .nilP .nil), .nil⟩
def qas_res : List StSh := []
def qas_tbl (n : Nat) : FuncId → List Entry := fun f => []
def qas_loops (n : Nat) : Nat → Option LEntry := fun f => none
theorem qas_run (n : Nat) : funDS (real _) tab (qas_tbl n) (qas_loops n) qas_an Try.f55 0 qas_a qas_res () some = qas n := by kernel_rfl
def qas_E (n : Nat) : Entry := ⟨qas_a, qas_res, fun d => qas n⟩
theorem qas_ok (n : Nat) : EOK Try.prog 55 (qas_E n) :=
 EOK.ofS zc zb ze (tbl := qas_tbl n) (loops := qas_loops n) (an := qas_an) (old := []) (n := n) (c := qas_c) (fn := Try.f55) TblOK.nil (by kernel_rfl) (by kernel_rfl) (by kernel_rfl) (by kernel_rfl) (fun d => by kernel_rfl) LT.nil (fun a => qas_run n)
def qz_res : List StSh := []
def qz_tbl (n : Nat) : FuncId → List Entry := fun f => bif Nat.beq f 55 then [qas_E n] else []
def qz_loops (n : Nat) : Nat → Option LEntry := fun f => none
theorem qz_run (n : Nat) (n_1 : Int) : funDS (real _) tab (qz_tbl n) (qz_loops n) qz_an Try.f75 0 qz_a qz_res n_1 some = qz n n_1 := by kernel_rfl
def qz_E (n : Nat) : Entry := ⟨qz_a, qz_res, fun d => qz n d⟩
theorem qz_ok (n : Nat) : EOK Try.prog 75 (qz_E n) :=
 EOK.ofS zc zb ze (tbl := qz_tbl n) (loops := qz_loops n) (an := qz_an) (old := []) (n := n) (c := qz_c) (fn := Try.f75) (TblOK.cons (AllE.cons (qas_ok n) AllE.nil) TblOK.nil) (by kernel_rfl) (by kernel_rfl) (by kernel_rfl) (by kernel_rfl) (fun d => by kernel_rfl) LT.nil (fun a => qz_run n a)
def qbf_h0 : List StSh := [⟨.normal, [0, 3, 4], (.cons .nilP (.cons (.int .u64) (.cons (.int .i64) .nil))), .nil⟩]
def qbf_o0 : List StSh := []
def qbf_L0 (n : Nat) : LEntry := ⟨qbf_h0, qbf_o0, qbf_W0 n⟩
def qbf_res : List StSh := []
def qbf_tbl (n : Nat) : FuncId → List Entry := fun f => bif Nat.beq f 75 then [qz_E n] else []
def qbf_loops (n : Nat) : Nat → Option LEntry := fun f => bif Nat.beq f 0 then some (qbf_L0 n) else none
theorem qbf_r0 (n : Nat) (v_3 : Int) (k_4 : Int) : roundK (real _) tab (qbf_tbl n) (qbf_loops n) qbf_an [] qbf_l0 0 [0, 3, 4] qbf_h0 qbf_o0 (v_3, k_4) some = qbf_B0 n v_3 k_4 := by kernel_rfl
theorem qbf_f0 (n : Nat) : LoopFact tab (qbf_tbl n) (qbf_loops n) qbf_an [] n 0 qbf_l0 (qbf_L0 n) := ⟨[0, 3, 4], (fun s => qbf_B0 n s.1 s.2), by kernel_rfl, by kernel_rfl, fun s => rfl, fun s => qbf_r0 n s.1 s.2⟩
theorem qbf_run (n : Nat) : funDS (real _) tab (qbf_tbl n) (qbf_loops n) qbf_an Try.f40 0 qbf_a qbf_res () some = qbf n := by kernel_rfl
def qbf_E (n : Nat) : Entry := ⟨qbf_a, qbf_res, fun d => qbf n⟩
theorem qbf_ok (n : Nat) : EOK Try.prog 40 (qbf_E n) :=
 EOK.ofS zc zb ze (tbl := qbf_tbl n) (loops := qbf_loops n) (an := qbf_an) (old := []) (n := n) (c := qbf_c) (fn := Try.f40) (TblOK.cons (AllE.cons (qz_ok n) AllE.nil) TblOK.nil) (by kernel_rfl) (by kernel_rfl) (by kernel_rfl) (by kernel_rfl) (fun d => by kernel_rfl) (LT.cons (by kernel_rfl) (qbf_f0 n) LT.nil) (fun a => qbf_run n)
def qaj_res : List StSh := []
def qaj_tbl (n : Nat) : FuncId → List Entry := fun f => bif Nat.beq f 40 then [qbf_E n] else []
def qaj_loops (n : Nat) : Nat → Option LEntry := fun f => none
theorem qaj_run (n : Nat) (m0 : Bool) : funDS (real _) tab (qaj_tbl n) (qaj_loops n) qaj_an Try.f39 1 qaj_a qaj_res m0 some = qaj n m0 := by kernel_rfl
def qaj_E (n : Nat) : Entry := ⟨qaj_a, qaj_res, fun d => qaj n d⟩
theorem qaj_ok (n : Nat) : EOK Try.prog 39 (qaj_E n) :=
 EOK.ofS zc zb ze (tbl := qaj_tbl n) (loops := qaj_loops n) (an := qaj_an) (old := [some true]) (n := n) (c := qaj_c) (fn := Try.f39) (TblOK.cons (AllE.cons (qbf_ok n) AllE.nil) TblOK.nil) (by kernel_rfl) (by kernel_rfl) (by kernel_rfl) (by kernel_rfl) (fun d => by kernel_rfl) LT.nil (fun a => qaj_run n a)
def qn_an : Ann := {}
def qn_c : Code := (match Try.f39.body with | some c => c | none => .skip)
def qn_a : StSh := ⟨.normal, [0], (.cons (.ptr 0 0 0 0) .nil), (.cons (.bcells 0 false 1 (.cons (.ptr 1 0 0 0) (.cons .bool .nil))) (.cons (.bcells 0 false 1 (.cons (.sl false false (.int .u8)) (.cons .bool .nil))) .nil))⟩
def qan_an : Ann := { live := [(0, [0, 3, 4])] }
def qan_c : Code := (match Try.f40.body with | some c => c | none => .skip)
def qan_l0 : Code := (match assoc 0 (loopsIn qan_c 0) with | some c => c | none => .skip)
def qan_a : StSh := ⟨.normal, [0], (.cons (.ptr 0 0 0 0) .nil), (.cons (.bcells 0 false 1 (.cons (.sl false false (.int .u8)) (.cons .bool .nil))) .nil)⟩
def qan_h0 : List StSh := [⟨.normal, [0, 3, 4], (.cons (.ptr 0 0 0 0) (.cons (.int .u64) (.cons (.int .i64) .nil))), (.cons (.bcells 0 false 1 (.cons (.sl false false (.int .u8)) (.cons .bool .nil))) .nil)⟩]
def qan_o0 : List StSh := [⟨.ret, [2], (.cons (.int .u64) .nil), (.cons (.bcells 0 false 1 (.cons (.sl false false (.int .u8)) (.cons .bool .nil))) .nil)⟩]
def qan_L0 (n : Nat) : LEntry := ⟨qan_h0, qan_o0, qan_W0 n⟩
def qan_res : List StSh := [⟨.ret, [0], (.cons (.int .u64) .nil), (.cons (.bcells 0 false 1 (.cons (.sl false false (.int .u8)) (.cons .bool .nil))) .nil)⟩]
def qan_tbl (n : Nat) : FuncId → List Entry := fun f => bif Nat.beq f 75 then [qax_E n] else bif Nat.beq f 76 then [qav_E n] else []
def qan_loops (n : Nat) : Nat → Option LEntry := fun f => bif Nat.beq f 0 then some (qan_L0 n) else none
theorem qan_r0 (n : Nat) (v_3 : Int) (k_4 : Int) (m0 : DA) (m0_1 : Bool) : roundK (real _) tab (qan_tbl n) (qan_loops n) qan_an [some true] qan_l0 0 [0, 3, 4] qan_h0 qan_o0 ((v_3, k_4), (m0, m0_1)) some = qan_B0 n v_3 k_4 m0 m0_1 := by kernel_rfl
theorem qan_f0 (n : Nat) : LoopFact tab (qan_tbl n) (qan_loops n) qan_an [some true] n 0 qan_l0 (qan_L0 n) := ⟨[0, 3, 4], (fun s => qan_B0 n s.1.1 s.1.2 s.2.1 s.2.2), by kernel_rfl, by kernel_rfl, fun s => rfl, fun s => qan_r0 n s.1.1 s.1.2 s.2.1 s.2.2⟩
theorem qan_run (n : Nat) (m0 : DA) (m0_1 : Bool) : funDS (real _) tab (qan_tbl n) (qan_loops n) qan_an Try.f40 1 qan_a qan_res (m0, m0_1) some = qan n m0 m0_1 := by kernel_rfl
def qan_E (n : Nat) : Entry := ⟨qan_a, qan_res, fun d => qan n d.1 d.2⟩
theorem qan_ok (n : Nat) : EOK Try.prog 40 (qan_E n) :=
 EOK.ofS zc zb ze (tbl := qan_tbl n) (loops := qan_loops n) (an := qan_an) (old := [some true]) (n := n) (c := qan_c) (fn := Try.f40) (TblOK.cons (AllE.cons (qax_ok n) AllE.nil) (TblOK.cons (AllE.cons (qav_ok n) AllE.nil) TblOK.nil)) (by kernel_rfl) (by kernel_rfl) (by kernel_rfl) (by kernel_rfl) (fun d => by kernel_rfl) (LT.cons (by kernel_rfl) (qan_f0 n) LT.nil) (fun a => qan_run n a.1 a.2)
def qn_res : List StSh := [⟨.ret, [0], (.cons (.int .i64) .nil), (.cons (.bcells 0 false 1 (.cons (.ptr 1 0 0 0) (.cons .bool .nil))) (.cons (.bcells 0 false 1 (.cons (.sl false false (.int .u8)) (.cons .bool .nil))) .nil))⟩]
def qn_tbl (n : Nat) : FuncId → List Entry := fun f => bif Nat.beq f 40 then [qan_E n] else []
def qn_loops (n : Nat) : Nat → Option LEntry := fun f => none
theorem qn_run (n : Nat) (m0 : Bool) (m1 : DA) (m1_1 : Bool) : funDS (real _) tab (qn_tbl n) (qn_loops n) qn_an Try.f39 2 qn_a qn_res (m0, (m1, m1_1)) some = qn n m0 m1 m1_1 := by kernel_rfl
def qn_E (n : Nat) : Entry := ⟨qn_a, qn_res, fun d => qn n d.1 d.2.1 d.2.2⟩
theorem qn_ok (n : Nat) : EOK Try.prog 39 (qn_E n) :=
 EOK.ofS zc zb ze (tbl := qn_tbl n) (loops := qn_loops n) (an := qn_an) (old := [some true, some true]) (n := n) (c := qn_c) (fn := Try.f39) (TblOK.cons (AllE.cons (qan_ok n) AllE.nil) TblOK.nil) (by kernel_rfl) (by kernel_rfl) (by kernel_rfl) (by kernel_rfl) (fun d => by kernel_rfl) LT.nil (fun a => qn_run n a.1 a.2.1 a.2.2)
def ql_an : Ann := { live := [(0, [0, 1, 5, 6])], boxed := [(1, 0), (5, 4)] }
def ql_c : Code := (match Try.f41.body with | some c => c | none => .skip)
def ql_l0 : Code := (match assoc 0 (loopsIn ql_c 0) with | some c => c | none => .skip)
def ql_a : StSh := ⟨.normal, [0, 1], (.cons (.ptr 0 0 0 0) (.cons (.fn 42 (.cons (.ptr 0 0 0 0) .nil) .nil) .nil)), (.cons (.bcells 0 false 1 (.cons (.ptr 1 0 0 0) (.cons .bool .nil))) (.cons (.bcells 0 false 1 (.cons (.sl false false (.int .u8)) (.cons .bool .nil))) .nil))⟩
def qp_an : Ann := {}
def qp_c : Code := (match Try.f47.body with | some c => c | none => .skip)
def qp_a : StSh := ⟨.normal, [0], (.cons (.ptr 0 0 0 0) .nil), (.cons (.bcells 0 false 1 (.cons (.ptr 1 0 0 0) (.cons .bool .nil))) (.cons (.bcells 0 false 1 (.cons (.sl false false (.int .u8)) (.cons .bool .nil))) .nil))⟩
def qp_res : List StSh := [⟨.ret, [0], (.cons .bool .nil), (.cons (.bcells 0 false 1 (.cons (.ptr 1 0 0 0) (.cons .bool .nil))) (.cons (.bcells 0 false 1 (.cons (.sl false false (.int .u8)) (.cons .bool .nil))) .nil))⟩]
def qp_tbl (n : Nat) : FuncId → List Entry := fun f => bif Nat.beq f 55 then [qbg_E n] else []
def qp_loops (n : Nat) : Nat → Option LEntry := fun f => none
theorem qp_run (n : Nat) (m0 : Bool) (m1 : DA) (m1_1 : Bool) : funDS (real _) tab (qp_tbl n) (qp_loops n) qp_an Try.f47 2 qp_a qp_res (m0, (m1, m1_1)) some = qp n m0 m1 m1_1 := by kernel_rfl
def qp_E (n : Nat) : Entry := ⟨qp_a, qp_res, fun d => qp n d.1 d.2.1 d.2.2⟩
theorem qp_ok (n : Nat) : EOK Try.prog 47 (qp_E n) :=
 EOK.ofS zc zb ze (tbl := qp_tbl n) (loops := qp_loops n) (an := qp_an) (old := [some true, some true]) (n := n) (c := qp_c) (fn := Try.f47) (TblOK.cons (AllE.cons (qbg_ok n) AllE.nil) TblOK.nil) (by kernel_rfl) (by kernel_rfl) (by kernel_rfl) (by kernel_rfl) (fun d => by kernel_rfl) LT.nil (fun a => qp_run n a.1 a.2.1 a.2.2)
def qq_an : Ann := {}
def qq_c : Code := (match Try.f42.body with | some c => c | none => .skip)
def qq_a : StSh := ⟨.normal, [0], (.cons (.ptr 0 0 0 0) .nil), (.cons (.bcells 0 false 1 (.cons (.ptr 1 0 0 0) (.cons .bool .nil))) (.cons (.bcells 0 false 1 (.cons (.sl false false (.int .u8)) (.cons .bool .nil))) .nil))⟩
def qac_an : Ann := { live := [(0, [0, 1, 5, 6])], boxed := [(1, 0), (5, 4)] }
def qac_c : Code := (match Try.f77.body with | some c => c | none => .skip)
def qac_l0 : Code := (match assoc 0 (loopsIn qac_c 0) with | some c => c | none => .skip)
def qac_a : StSh := ⟨.normal, [0, 1], (.cons (.ptr 0 0 0 0) (.cons (.fn 40 (.cons (.ptr 1 0 0 0) .nil) .nil) .nil)), (.cons (.bcells 0 false 1 (.cons (.ptr 1 0 0 0) (.cons .bool .nil))) (.cons (.bcells 0 false 1 (.cons (.sl false false (.int .u8)) (.cons .bool .nil))) .nil))⟩
def qac_h0 : List StSh := [⟨.normal, [0, 1, 5, 6], (.cons (.ptr 0 0 0 0) (.cons (.fn 40 (.cons (.ptr 1 0 0 0) .nil) .nil) (.cons (.msw 2 0) (.cons (.int .i64) .nil)))), (.cons (.bcells 0 false 1 (.cons (.ptr 1 0 0 0) (.cons .bool .nil))) (.cons (.bcells 0 false 1 (.cons (.sl false false (.int .u8)) (.cons .bool .nil))) (.cons (.bts 0 false false false (.int .u64)) .nil)))⟩]
def qac_o0 : List StSh := [⟨.exit 0, [5], (.cons (.msw 2 0) .nil), (.cons (.bcells 0 false 1 (.cons (.ptr 1 0 0 0) (.cons .bool .nil))) (.cons (.bcells 0 false 1 (.cons (.sl false false (.int .u8)) (.cons .bool .nil))) (.cons (.bts 0 false false false (.int .u64)) .nil)))⟩]
def qac_L0 (n : Nat) : LEntry := ⟨qac_h0, qac_o0, qac_W0 n⟩
def qac_res : List StSh := [⟨.ret, [0], (.cons (.sl false false (.int .u64)) .nil), (.cons (.bcells 0 false 1 (.cons (.ptr 1 0 0 0) (.cons .bool .nil))) (.cons (.bcells 0 false 1 (.cons (.sl false false (.int .u8)) (.cons .bool .nil))) .nil))⟩]
def qac_tbl (n : Nat) : FuncId → List Entry := fun f => bif Nat.beq f 39 then [qn_E n] else bif Nat.beq f 47 then [qp_E n] else bif Nat.beq f 40 then [qan_E n] else []
def qac_loops (n : Nat) : Nat → Option LEntry := fun f => bif Nat.beq f 0 then some (qac_L0 n) else none
theorem qac_r0 (n : Nat) (n_6 : Int) (m0 : Bool) (m1 : DA) (m1_1 : Bool) (m2 : DA) : roundK (real _) tab (qac_tbl n) (qac_loops n) qac_an [some true, some true] qac_l0 0 [0, 1, 5, 6] qac_h0 qac_o0 (n_6, (m0, ((m1, m1_1), m2))) some = qac_B0 n n_6 m0 m1 m1_1 m2 := by kernel_rfl
theorem qac_f0 (n : Nat) : LoopFact tab (qac_tbl n) (qac_loops n) qac_an [some true, some true] n 0 qac_l0 (qac_L0 n) := ⟨[0, 1, 5, 6], (fun s => qac_B0 n s.1 s.2.1 s.2.2.1.1 s.2.2.1.2 s.2.2.2), by kernel_rfl, by kernel_rfl, fun s => rfl, fun s => qac_r0 n s.1 s.2.1 s.2.2.1.1 s.2.2.1.2 s.2.2.2⟩
theorem qac_run (n : Nat) (m0 : Bool) (m1 : DA) (m1_1 : Bool) : funDS (real _) tab (qac_tbl n) (qac_loops n) qac_an Try.f77 2 qac_a qac_res (m0, (m1, m1_1)) some = qac n m0 m1 m1_1 := by kernel_rfl
def qac_E (n : Nat) : Entry := ⟨qac_a, qac_res, fun d => qac n d.1 d.2.1 d.2.2⟩
theorem qac_ok (n : Nat) : EOK Try.prog 77 (qac_E n) :=
 EOK.ofS zc zb ze (tbl := qac_tbl n) (loops := qac_loops n) (an := qac_an) (old := [some true, some true]) (n := n) (c := qac_c) (fn := Try.f77) (TblOK.cons (AllE.cons (qn_ok n) AllE.nil) (TblOK.cons (AllE.cons (qp_ok n) AllE.nil) (TblOK.cons (AllE.cons (qan_ok n) AllE.nil) TblOK.nil))) (by kernel_rfl) (by kernel_rfl) (by kernel_rfl) (by kernel_rfl) (fun d => by kernel_rfl) (LT.cons (by kernel_rfl) (qac_f0 n) LT.nil) (fun a => qac_run n a.1 a.2.1 a.2.2)
def qq_res : List StSh := [⟨.ret, [0], (.cons (.agg (.cons (.int .i64) (.cons (.int .i64) (.cons (.sl false false (.int .u64)) (.cons (.sl false false (.int .u64)) .nil))))) .nil), (.cons (.bcells 0 false 1 (.cons (.ptr 1 0 0 0) (.cons .bool .nil))) (.cons (.bcells 0 false 1 (.cons (.sl false false (.int .u8)) (.cons .bool .nil))) .nil))⟩]
def qq_tbl (n : Nat) : FuncId → List Entry := fun f => bif Nat.beq f 39 then [qn_E n] else bif Nat.beq f 77 then [qac_E n] else []
def qq_loops (n : Nat) : Nat → Option LEntry := fun f => none
theorem qq_run (n : Nat) (m0 : Bool) (m1 : DA) (m1_1 : Bool) : funDS (real _) tab (qq_tbl n) (qq_loops n) qq_an Try.f42 2 qq_a qq_res (m0, (m1, m1_1)) some = qq n m0 m1 m1_1 := by kernel_rfl
def qq_E (n : Nat) : Entry := ⟨qq_a, qq_res, fun d => qq n d.1 d.2.1 d.2.2⟩
theorem qq_ok (n : Nat) : EOK Try.prog 42 (qq_E n) :=
 EOK.ofS zc zb ze (tbl := qq_tbl n) (loops := qq_loops n) (an := qq_an) (old := [some true, some true]) (n := n) (c := qq_c) (fn := Try.f42) (TblOK.cons (AllE.cons (qn_ok n) AllE.nil) (TblOK.cons (AllE.cons (qac_ok n) AllE.nil) TblOK.nil)) (by kernel_rfl) (by kernel_rfl) (by kernel_rfl) (by kernel_rfl) (fun d => by kernel_rfl) LT.nil (fun a => qq_run n a.1 a.2.1 a.2.2)
def ql_h0 : List StSh := [⟨.normal, [0, 1, 5, 6], (.cons (.ptr 0 0 0 0) (.cons (.fn 42 (.cons (.ptr 0 0 0 0) .nil) .nil) (.cons (.msw 2 0) (.cons (.int .i64) .nil)))), (.cons (.bcells 0 false 1 (.cons (.ptr 1 0 0 0) (.cons .bool .nil))) (.cons (.bcells 0 false 1 (.cons (.sl false false (.int .u8)) (.cons .bool .nil))) (.cons (.bts 0 false false true yA) .nil)))⟩]
def ql_o0 : List StSh := [⟨.exit 0, [5], (.cons (.msw 2 0) .nil), (.cons (.bcells 0 false 1 (.cons (.ptr 1 0 0 0) (.cons .bool .nil))) (.cons (.bcells 0 false 1 (.cons (.sl false false (.int .u8)) (.cons .bool .nil))) (.cons (.bts 0 false false true yA) .nil)))⟩]
def ql_L0 (n : Nat) : LEntry := ⟨ql_h0, ql_o0, ql_W0 n⟩
def ql_res : List StSh := [⟨.ret, [0], (.cons (.sl false true yA) .nil), (.cons (.bcells 0 false 1 (.cons (.ptr 1 0 0 0) (.cons .bool .nil))) (.cons (.bcells 0 false 1 (.cons (.sl false false (.int .u8)) (.cons .bool .nil))) .nil))⟩]
def ql_tbl (n : Nat) : FuncId → List Entry := fun f => bif Nat.beq f 39 then [qn_E n] else bif Nat.beq f 47 then [qp_E n] else bif Nat.beq f 42 then [qq_E n] else []
def ql_loops (n : Nat) : Nat → Option LEntry := fun f => bif Nat.beq f 0 then some (ql_L0 n) else none
theorem ql_r0 (n : Nat) (n_6 : Int) (m0 : Bool) (m1 : DA) (m1_1 : Bool) (m2 : DE) : roundK (real _) tab (ql_tbl n) (ql_loops n) ql_an [some true, some true] ql_l0 0 [0, 1, 5, 6] ql_h0 ql_o0 (n_6, (m0, ((m1, m1_1), m2))) some = ql_B0 n n_6 m0 m1 m1_1 m2 := by kernel_rfl
theorem ql_f0 (n : Nat) : LoopFact tab (ql_tbl n) (ql_loops n) ql_an [some true, some true] n 0 ql_l0 (ql_L0 n) := ⟨[0, 1, 5, 6], (fun s => ql_B0 n s.1 s.2.1 s.2.2.1.1 s.2.2.1.2 s.2.2.2), by kernel_rfl, by kernel_rfl, fun s => rfl, fun s => ql_r0 n s.1 s.2.1 s.2.2.1.1 s.2.2.1.2 s.2.2.2⟩
theorem ql_run (n : Nat) (m0 : Bool) (m1 : DA) (m1_1 : Bool) : funDS (real _) tab (ql_tbl n) (ql_loops n) ql_an Try.f41 2 ql_a ql_res (m0, (m1, m1_1)) some = ql n m0 m1 m1_1 := by kernel_rfl
def ql_E (n : Nat) : Entry := ⟨ql_a, ql_res, fun d => ql n d.1 d.2.1 d.2.2⟩
theorem ql_ok (n : Nat) : EOK Try.prog 41 (ql_E n) :=
 EOK.ofS zc zb ze (tbl := ql_tbl n) (loops := ql_loops n) (an := ql_an) (old := [some true, some true]) (n := n) (c := ql_c) (fn := Try.f41) (TblOK.cons (AllE.cons (qn_ok n) AllE.nil) (TblOK.cons (AllE.cons (qp_ok n) AllE.nil) (TblOK.cons (AllE.cons (qq_ok n) AllE.nil) TblOK.nil))) (by kernel_rfl) (by kernel_rfl) (by kernel_rfl) (by kernel_rfl) (fun d => by kernel_rfl) (LT.cons (by kernel_rfl) (ql_f0 n) LT.nil) (fun a => ql_run n a.1 a.2.1 a.2.2)
def qad_an : Ann := { live := [(0, [0, 1, 5, 6])], boxed := [(1, 0), (5, 4)] }
def qad_c : Code := (match Try.f43.body with | some c => c | none => .skip)
def qad_l0 : Code := (match assoc 0 (loopsIn qad_c 0) with | some c => c | none => .skip)
def qad_a : StSh := ⟨.normal, [0, 1], (.cons (.ptr 0 0 0 0) (.cons (.fn 44 (.cons (.ptr 0 0 0 0) .nil) .nil) .nil)), (.cons (.bcells 0 false 1 (.cons (.ptr 1 0 0 0) (.cons .bool .nil))) (.cons (.bcells 0 false 1 (.cons (.sl false false (.int .u8)) (.cons .bool .nil))) .nil))⟩
def qar_an : Ann := {}
def qar_c : Code := (match Try.f44.body with | some c => c | none => .skip)
def qar_a : StSh := ⟨.normal, [0], (.cons (.ptr 0 0 0 0) .nil), (.cons (.bcells 0 false 1 (.cons (.ptr 1 0 0 0) (.cons .bool .nil))) (.cons (.bcells 0 false 1 (.cons (.sl false false (.int .u8)) (.cons .bool .nil))) .nil))⟩
def qar_res : List StSh := [⟨.ret, [0], (.cons (.agg (.cons (.int .i64) (.cons (.int .i64) (.cons (.sl false false (.int .u64)) (.cons (.sl false false (.int .u8)) .nil))))) .nil), (.cons (.bcells 0 false 1 (.cons (.ptr 1 0 0 0) (.cons .bool .nil))) (.cons (.bcells 0 false 1 (.cons (.sl false false (.int .u8)) (.cons .bool .nil))) .nil))⟩]
def qar_tbl (n : Nat) : FuncId → List Entry := fun f => bif Nat.beq f 39 then [qn_E n] else bif Nat.beq f 77 then [qac_E n] else bif Nat.beq f 75 then [qax_E n] else []
def qar_loops (n : Nat) : Nat → Option LEntry := fun f => none
theorem qar_run (n : Nat) (m0 : Bool) (m1 : DA) (m1_1 : Bool) : funDS (real _) tab (qar_tbl n) (qar_loops n) qar_an Try.f44 2 qar_a qar_res (m0, (m1, m1_1)) some = qar n m0 m1 m1_1 := by kernel_rfl
def qar_E (n : Nat) : Entry := ⟨qar_a, qar_res, fun d => qar n d.1 d.2.1 d.2.2⟩
theorem qar_ok (n : Nat) : EOK Try.prog 44 (qar_E n) :=
 EOK.ofS zc zb ze (tbl := qar_tbl n) (loops := qar_loops n) (an := qar_an) (old := [some true, some true]) (n := n) (c := qar_c) (fn := Try.f44) (TblOK.cons (AllE.cons (qn_ok n) AllE.nil) (TblOK.cons (AllE.cons (qac_ok n) AllE.nil) (TblOK.cons (AllE.cons (qax_ok n) AllE.nil) TblOK.nil))) (by kernel_rfl) (by kernel_rfl) (by kernel_rfl) (by kernel_rfl) (fun d => by kernel_rfl) LT.nil (fun a => qar_run n a.1 a.2.1 a.2.2)
def qad_h0 : List StSh := [⟨.normal, [0, 1, 5, 6], (.cons (.ptr 0 0 0 0) (.cons (.fn 44 (.cons (.ptr 0 0 0 0) .nil) .nil) (.cons (.msw 2 0) (.cons (.int .i64) .nil)))), (.cons (.bcells 0 false 1 (.cons (.ptr 1 0 0 0) (.cons .bool .nil))) (.cons (.bcells 0 false 1 (.cons (.sl false false (.int .u8)) (.cons .bool .nil))) (.cons (.bts 0 false false true yB) .nil)))⟩]
def qad_o0 : List StSh := [⟨.exit 0, [5], (.cons (.msw 2 0) .nil), (.cons (.bcells 0 false 1 (.cons (.ptr 1 0 0 0) (.cons .bool .nil))) (.cons (.bcells 0 false 1 (.cons (.sl false false (.int .u8)) (.cons .bool .nil))) (.cons (.bts 0 false false true yB) .nil)))⟩]
def qad_L0 (n : Nat) : LEntry := ⟨qad_h0, qad_o0, qad_W0 n⟩
def qad_res : List StSh := [⟨.ret, [0], (.cons (.sl false true yB) .nil), (.cons (.bcells 0 false 1 (.cons (.ptr 1 0 0 0) (.cons .bool .nil))) (.cons (.bcells 0 false 1 (.cons (.sl false false (.int .u8)) (.cons .bool .nil))) .nil))⟩]
def qad_tbl (n : Nat) : FuncId → List Entry := fun f => bif Nat.beq f 39 then [qn_E n] else bif Nat.beq f 47 then [qp_E n] else bif Nat.beq f 44 then [qar_E n] else []
def qad_loops (n : Nat) : Nat → Option LEntry := fun f => bif Nat.beq f 0 then some (qad_L0 n) else none
theorem qad_r0 (n : Nat) (n_6 : Int) (m0 : Bool) (m1 : DA) (m1_1 : Bool) (m2 : DE) : roundK (real _) tab (qad_tbl n) (qad_loops n) qad_an [some true, some true] qad_l0 0 [0, 1, 5, 6] qad_h0 qad_o0 (n_6, (m0, ((m1, m1_1), m2))) some = qad_B0 n n_6 m0 m1 m1_1 m2 := by kernel_rfl
theorem qad_f0 (n : Nat) : LoopFact tab (qad_tbl n) (qad_loops n) qad_an [some true, some true] n 0 qad_l0 (qad_L0 n) := ⟨[0, 1, 5, 6], (fun s => qad_B0 n s.1 s.2.1 s.2.2.1.1 s.2.2.1.2 s.2.2.2), by kernel_rfl, by kernel_rfl, fun s => rfl, fun s => qad_r0 n s.1 s.2.1 s.2.2.1.1 s.2.2.1.2 s.2.2.2⟩
theorem qad_run (n : Nat) (m0 : Bool) (m1 : DA) (m1_1 : Bool) : funDS (real _) tab (qad_tbl n) (qad_loops n) qad_an Try.f43 2 qad_a qad_res (m0, (m1, m1_1)) some = qad n m0 m1 m1_1 := by kernel_rfl
def qad_E (n : Nat) : Entry := ⟨qad_a, qad_res, fun d => qad n d.1 d.2.1 d.2.2⟩
theorem qad_ok (n : Nat) : EOK Try.prog 43 (qad_E n) :=
 EOK.ofS zc zb ze (tbl := qad_tbl n) (loops := qad_loops n) (an := qad_an) (old := [some true, some true]) (n := n) (c := qad_c) (fn := Try.f43) (TblOK.cons (AllE.cons (qn_ok n) AllE.nil) (TblOK.cons (AllE.cons (qp_ok n) AllE.nil) (TblOK.cons (AllE.cons (qar_ok n) AllE.nil) TblOK.nil))) (by kernel_rfl) (by kernel_rfl) (by kernel_rfl) (by kernel_rfl) (fun d => by kernel_rfl) (LT.cons (by kernel_rfl) (qad_f0 n) LT.nil) (fun a => qad_run n a.1 a.2.1 a.2.2)
def qa_an : Ann := { live := [(0, [0, 1, 5, 6])], boxed := [(1, 0), (5, 4)] }
def qa_c : Code := (match Try.f45.body with | some c => c | none => .skip)
def qa_l0 : Code := (match assoc 0 (loopsIn qa_c 0) with | some c => c | none => .skip)
def qa_a : StSh := ⟨.normal, [0, 1], (.cons (.ptr 0 0 0 0) (.cons (.fn 46 (.cons (.ptr 0 0 0 0) .nil) .nil) .nil)), (.cons (.bcells 0 false 1 (.cons (.ptr 1 0 0 0) (.cons .bool .nil))) (.cons (.bcells 0 false 1 (.cons (.sl false false (.int .u8)) (.cons .bool .nil))) .nil))⟩
def qap_an : Ann := {}
def qap_c : Code := (match Try.f46.body with | some c => c | none => .skip)
def qap_a : StSh := ⟨.normal, [0], (.cons (.ptr 0 0 0 0) .nil), (.cons (.bcells 0 false 1 (.cons (.ptr 1 0 0 0) (.cons .bool .nil))) (.cons (.bcells 0 false 1 (.cons (.sl false false (.int .u8)) (.cons .bool .nil))) .nil))⟩
def qap_res : List StSh := [⟨.ret, [0], (.cons (.agg (.cons (.int .i64) (.cons (.int .u64) (.cons .bool .nil)))) .nil), (.cons (.bcells 0 false 1 (.cons (.ptr 1 0 0 0) (.cons .bool .nil))) (.cons (.bcells 0 false 1 (.cons (.sl false false (.int .u8)) (.cons .bool .nil))) .nil))⟩]
def qap_tbl (n : Nat) : FuncId → List Entry := fun f => bif Nat.beq f 39 then [qn_E n] else bif Nat.beq f 40 then [qan_E n] else []
def qap_loops (n : Nat) : Nat → Option LEntry := fun f => none
theorem qap_run (n : Nat) (m0 : Bool) (m1 : DA) (m1_1 : Bool) : funDS (real _) tab (qap_tbl n) (qap_loops n) qap_an Try.f46 2 qap_a qap_res (m0, (m1, m1_1)) some = qap n m0 m1 m1_1 := by kernel_rfl
def qap_E (n : Nat) : Entry := ⟨qap_a, qap_res, fun d => qap n d.1 d.2.1 d.2.2⟩
theorem qap_ok (n : Nat) : EOK Try.prog 46 (qap_E n) :=
 EOK.ofS zc zb ze (tbl := qap_tbl n) (loops := qap_loops n) (an := qap_an) (old := [some true, some true]) (n := n) (c := qap_c) (fn := Try.f46) (TblOK.cons (AllE.cons (qn_ok n) AllE.nil) (TblOK.cons (AllE.cons (qan_ok n) AllE.nil) TblOK.nil)) (by kernel_rfl) (by kernel_rfl) (by kernel_rfl) (by kernel_rfl) (fun d => by kernel_rfl) LT.nil (fun a => qap_run n a.1 a.2.1 a.2.2)
def qa_h0 : List StSh := [⟨.normal, [0, 1, 5, 6], (.cons (.ptr 0 0 0 0) (.cons (.fn 46 (.cons (.ptr 0 0 0 0) .nil) .nil) (.cons (.msw 2 0) (.cons (.int .i64) .nil)))), (.cons (.bcells 0 false 1 (.cons (.ptr 1 0 0 0) (.cons .bool .nil))) (.cons (.bcells 0 false 1 (.cons (.sl false false (.int .u8)) (.cons .bool .nil))) (.cons (.bts 0 false false true yC) .nil)))⟩]
def qa_o0 : List StSh := [⟨.exit 0, [5], (.cons (.msw 2 0) .nil), (.cons (.bcells 0 false 1 (.cons (.ptr 1 0 0 0) (.cons .bool .nil))) (.cons (.bcells 0 false 1 (.cons (.sl false false (.int .u8)) (.cons .bool .nil))) (.cons (.bts 0 false false true yC) .nil)))⟩]
def qa_L0 (n : Nat) : LEntry := ⟨qa_h0, qa_o0, qa_W0 n⟩
def qa_res : List StSh := [⟨.ret, [0], (.cons (.sl false true yC) .nil), (.cons (.bcells 0 false 1 (.cons (.ptr 1 0 0 0) (.cons .bool .nil))) (.cons (.bcells 0 false 1 (.cons (.sl false false (.int .u8)) (.cons .bool .nil))) .nil))⟩]
def qa_tbl (n : Nat) : FuncId → List Entry := fun f => bif Nat.beq f 39 then [qn_E n] else bif Nat.beq f 47 then [qp_E n] else bif Nat.beq f 46 then [qap_E n] else []
def qa_loops (n : Nat) : Nat → Option LEntry := fun f => bif Nat.beq f 0 then some (qa_L0 n) else none
theorem qa_r0 (n : Nat) (n_6 : Int) (m0 : Bool) (m1 : DA) (m1_1 : Bool) (m2 : DB) : roundK (real _) tab (qa_tbl n) (qa_loops n) qa_an [some true, some true] qa_l0 0 [0, 1, 5, 6] qa_h0 qa_o0 (n_6, (m0, ((m1, m1_1), m2))) some = qa_B0 n n_6 m0 m1 m1_1 m2 := by kernel_rfl
theorem qa_f0 (n : Nat) : LoopFact tab (qa_tbl n) (qa_loops n) qa_an [some true, some true] n 0 qa_l0 (qa_L0 n) := ⟨[0, 1, 5, 6], (fun s => qa_B0 n s.1 s.2.1 s.2.2.1.1 s.2.2.1.2 s.2.2.2), by kernel_rfl, by kernel_rfl, fun s => rfl, fun s => qa_r0 n s.1 s.2.1 s.2.2.1.1 s.2.2.1.2 s.2.2.2⟩
theorem qa_run (n : Nat) (m0 : Bool) (m1 : DA) (m1_1 : Bool) : funDS (real _) tab (qa_tbl n) (qa_loops n) qa_an Try.f45 2 qa_a qa_res (m0, (m1, m1_1)) some = qa n m0 m1 m1_1 := by kernel_rfl
def qa_E (n : Nat) : Entry := ⟨qa_a, qa_res, fun d => qa n d.1 d.2.1 d.2.2⟩
theorem qa_ok (n : Nat) : EOK Try.prog 45 (qa_E n) :=
 EOK.ofS zc zb ze (tbl := qa_tbl n) (loops := qa_loops n) (an := qa_an) (old := [some true, some true]) (n := n) (c := qa_c) (fn := Try.f45) (TblOK.cons (AllE.cons (qn_ok n) AllE.nil) (TblOK.cons (AllE.cons (qp_ok n) AllE.nil) (TblOK.cons (AllE.cons (qap_ok n) AllE.nil) TblOK.nil))) (by kernel_rfl) (by kernel_rfl) (by kernel_rfl) (by kernel_rfl) (fun d => by kernel_rfl) (LT.cons (by kernel_rfl) (qa_f0 n) LT.nil) (fun a => qa_run n a.1 a.2.1 a.2.2)
def qaw_an : Ann := {}
def qaw_c : Code := (match Try.f48.body with | some c => c | none => .skip)
def qaw_a : StSh := ⟨.normal, [0], (.cons (.ptr 0 0 0 0) .nil), (.cons (.bcells 0 false 1 (.cons (.sl false false (.int .u8)) (.cons .bool .nil))) .nil)⟩
def qaw_res : List StSh := [⟨.ret, [0], (.cons (.int .i64) .nil), (.cons (.bcells 0 false 1 (.cons (.sl false false (.int .u8)) (.cons .bool .nil))) .nil)⟩]
def qaw_tbl (n : Nat) : FuncId → List Entry := fun f => bif Nat.beq f 55 then [qbg_E n] else []
def qaw_loops (n : Nat) : Nat → Option LEntry := fun f => none
theorem qaw_run (n : Nat) (m0 : DA) (m0_1 : Bool) : funDS (real _) tab (qaw_tbl n) (qaw_loops n) qaw_an Try.f48 1 qaw_a qaw_res (m0, m0_1) some = qaw n m0 m0_1 := by kernel_rfl
def qaw_E (n : Nat) : Entry := ⟨qaw_a, qaw_res, fun d => qaw n d.1 d.2⟩
theorem qaw_ok (n : Nat) : EOK Try.prog 48 (qaw_E n) :=
 EOK.ofS zc zb ze (tbl := qaw_tbl n) (loops := qaw_loops n) (an := qaw_an) (old := [some true]) (n := n) (c := qaw_c) (fn := Try.f48) (TblOK.cons (AllE.cons (qbg_ok n) AllE.nil) TblOK.nil) (by kernel_rfl) (by kernel_rfl) (by kernel_rfl) (by kernel_rfl) (fun d => by kernel_rfl) LT.nil (fun a => qaw_run n a.1 a.2)
def qbi_res : List StSh := [⟨.ret, [0], (.cons (.tup (.cons (.agg (.cons (.sl false true yA) (.cons (.sl false true yB) (.cons (.sl false true yC) (.cons (.int .i64) (.cons (.int .i64) (.cons (.int .i64) (.cons (.int .u64) .nil)))))))) (.cons (.int .u32) (.cons (.int .i64) .nil)))) .nil), .nil⟩]
def qbi_tbl (n : Nat) : FuncId → List Entry := fun f => bif Nat.beq f 38 then [qbj_E n] else bif Nat.beq f 39 then [qaj_E n, qn_E n] else bif Nat.beq f 40 then [qan_E n] else bif Nat.beq f 41 then [ql_E n] else bif Nat.beq f 43 then [qad_E n] else bif Nat.beq f 45 then [qa_E n] else bif Nat.beq f 47 then [qp_E n] else bif Nat.beq f 48 then [qaw_E n] else []
def qbi_loops (n : Nat) : Nat → Option LEntry := fun f => none
theorem qbi_run (n : Nat) (b_0 : DA) : funDS (real _) tab (qbi_tbl n) (qbi_loops n) qbi_an Try.f15 0 qbi_a qbi_res b_0 some = qbi n b_0 := by kernel_rfl
def qbi_E (n : Nat) : Entry := ⟨qbi_a, qbi_res, fun d => qbi n d⟩
theorem qbi_ok (n : Nat) : EOK Try.prog 15 (qbi_E n) :=
 EOK.ofS zc zb ze (tbl := qbi_tbl n) (loops := qbi_loops n) (an := qbi_an) (old := []) (n := n) (c := qbi_c) (fn := Try.f15) (TblOK.cons (AllE.cons (qbj_ok n) AllE.nil) (TblOK.cons (AllE.cons (qaj_ok n) (AllE.cons (qn_ok n) AllE.nil)) (TblOK.cons (AllE.cons (qan_ok n) AllE.nil) (TblOK.cons (AllE.cons (ql_ok n) AllE.nil) (TblOK.cons (AllE.cons (qad_ok n) AllE.nil) (TblOK.cons (AllE.cons (qa_ok n) AllE.nil) (TblOK.cons (AllE.cons (qp_ok n) AllE.nil) (TblOK.cons (AllE.cons (qaw_ok n) AllE.nil) TblOK.nil)))))))) (by kernel_rfl) (by kernel_rfl) (by kernel_rfl) (by kernel_rfl) (fun d => by kernel_rfl) LT.nil (fun a => qbi_run n a)
def qbh_res : List StSh := [⟨.ret, [0], (.cons .bool .nil), .nil⟩]
def qbh_tbl (n : Nat) : FuncId → List Entry := fun f => bif Nat.beq f 12 then [qbl_E n] else bif Nat.beq f 15 then [qbi_E n] else []
def qbh_loops (n : Nat) : Nat → Option LEntry := fun f => none
theorem qbh_run (n : Nat) : funDS (real _) tab (qbh_tbl n) (qbh_loops n) qbh_an Try.f11 0 qbh_a qbh_res () some = qbh n := by kernel_rfl
def qbh_E (n : Nat) : Entry := ⟨qbh_a, qbh_res, fun d => qbh n⟩
theorem qbh_ok (n : Nat) : EOK Try.prog 11 (qbh_E n) :=
 EOK.ofS zc zb ze (tbl := qbh_tbl n) (loops := qbh_loops n) (an := qbh_an) (old := []) (n := n) (c := qbh_c) (fn := Try.f11) (TblOK.cons (AllE.cons (qbl_ok n) AllE.nil) (TblOK.cons (AllE.cons (qbi_ok n) AllE.nil) TblOK.nil)) (by kernel_rfl) (by kernel_rfl) (by kernel_rfl) (by kernel_rfl) (fun d => by kernel_rfl) LT.nil (fun a => qbh_run n)
def qbp_an : Ann := { live := [(0, [2, 3, 7, 8, 9, 10, 11]), (2, [2, 3, 7, 8, 9, 10, 13]), (4, [2, 3, 7, 8, 9, 10, 15])], boxed := [(0, 1), (1, 0), (4, 4), (5, 15), (6, 0), (6, 1), (6, 2), (11, 10), (11, 15), (11, 20), (16, 10), (16, 15), (17, 8), (17, 11), (25, 10), (26, 8), (27, 8), (28, 8), (30, 2), (30, 4), (30, 6), (31, 2), (31, 4), (31, 6)], raw := [(26, 6), (27, 6), (28, 6), (32, 1)] }
def qbp_c : Code := (match Try.f14.body with | some c => c | none => .skip)
def qbp_l0 : Code := (match assoc 0 (loopsIn qbp_c 0) with | some c => c | none => .skip)
def qbp_l2 : Code := (match assoc 2 (loopsIn qbp_c 0) with | some c => c | none => .skip)
def qbp_l4 : Code := (match assoc 4 (loopsIn qbp_c 0) with | some c => c | none => .skip)
def qbp_a : StSh := ⟨.normal, [0, 1, 2], (.cons (.agg (.cons (.sl true true yA) (.cons (.sl true true yB) (.cons (.sl true true yC) (.cons (.int .i64) (.cons (.int .i64) (.cons (.int .i64) (.cons (.int .u64) .nil)))))))) (.cons (.int .u32) (.cons .bool .nil))), .nil⟩
def qbt_an : Ann := { live := [(0, [0, 1, 5, 6])], boxed := [(1, 0), (5, 5)] }
def qbt_c : Code := (match Try.f34.body with | some c => c | none => .skip)
def qbt_l0 : Code := (match assoc 0 (loopsIn qbt_c 0) with | some c => c | none => .skip)
def qbt_a : StSh := ⟨.normal, [0, 1], (.cons (.int .u64) (.cons (.int .i64) .nil)), .nil⟩
def qbt_h0 : List StSh := [⟨.normal, [0, 1, 5, 6], (.cons (.int .u64) (.cons (.int .i64) (.cons (.msw 0 0) (.cons (.int .i64) .nil)))), (.cons (.bts 0 false false false (.int .u8)) .nil)⟩]
def qbt_o0 : List StSh := [⟨.exit 0, [5], (.cons (.msw 0 0) .nil), (.cons (.bts 0 false false false (.int .u8)) .nil)⟩]
def qbt_L0 (n : Nat) : LEntry := ⟨qbt_h0, qbt_o0, qbt_W0 n⟩
def qbt_res : List StSh := [⟨.ret, [0], (.cons (.sl false false (.int .u8)) .nil), .nil⟩]
def qbt_tbl (n : Nat) : FuncId → List Entry := fun f => []
def qbt_loops (n : Nat) : Nat → Option LEntry := fun f => bif Nat.beq f 0 then some (qbt_L0 n) else none
theorem qbt_r0 (n : Nat) (v_0 : Int) (n_1 : Int) (k_6 : Int) (m0 : DA) : roundK (real _) tab (qbt_tbl n) (qbt_loops n) qbt_an [] qbt_l0 0 [0, 1, 5, 6] qbt_h0 qbt_o0 ((v_0, (n_1, k_6)), m0) some = qbt_B0 n v_0 n_1 k_6 m0 := by kernel_rfl
theorem qbt_f0 (n : Nat) : LoopFact tab (qbt_tbl n) (qbt_loops n) qbt_an [] n 0 qbt_l0 (qbt_L0 n) := ⟨[0, 1, 5, 6], (fun s => qbt_B0 n s.1.1 s.1.2.1 s.1.2.2 s.2), by kernel_rfl, by kernel_rfl, fun s => rfl, fun s => qbt_r0 n s.1.1 s.1.2.1 s.1.2.2 s.2⟩
theorem qbt_run (n : Nat) (v_0 : Int) (n_1 : Int) : funDS (real _) tab (qbt_tbl n) (qbt_loops n) qbt_an Try.f34 0 qbt_a qbt_res (v_0, n_1) some = qbt n v_0 n_1 := by kernel_rfl
def qbt_E (n : Nat) : Entry := ⟨qbt_a, qbt_res, fun d => qbt n d.1 d.2⟩
theorem qbt_ok (n : Nat) : EOK Try.prog 34 (qbt_E n) :=
 EOK.ofS zc zb ze (tbl := qbt_tbl n) (loops := qbt_loops n) (an := qbt_an) (old := []) (n := n) (c := qbt_c) (fn := Try.f34) TblOK.nil (by kernel_rfl) (by kernel_rfl) (by kernel_rfl) (by kernel_rfl) (fun d => by kernel_rfl) (LT.cons (by kernel_rfl) (qbt_f0 n) LT.nil) (fun a => qbt_run n a.1 a.2)
def qbm_an : Ann := {}
def qbm_c : Code := (match Try.f36.body with | some c => c | none => .skip)
def qbm_a : StSh := ⟨.normal, [0], (.cons (.int .i64) .nil), .nil⟩
def qbm_res : List StSh := [⟨.ret, [0], (.cons (.int .u64) .nil), .nil⟩]
def qbm_tbl (n : Nat) : FuncId → List Entry := fun f => []
def qbm_loops (n : Nat) : Nat → Option LEntry := fun f => none
theorem qbm_run (n : Nat) (n_0 : Int) : funDS (real _) tab (qbm_tbl n) (qbm_loops n) qbm_an Try.f36 0 qbm_a qbm_res n_0 some = qbm n n_0 := by kernel_rfl
def qbm_E (n : Nat) : Entry := ⟨qbm_a, qbm_res, fun d => qbm n d⟩
theorem qbm_ok (n : Nat) : EOK Try.prog 36 (qbm_E n) :=
 EOK.ofS zc zb ze (tbl := qbm_tbl n) (loops := qbm_loops n) (an := qbm_an) (old := []) (n := n) (c := qbm_c) (fn := Try.f36) TblOK.nil (by kernel_rfl) (by kernel_rfl) (by kernel_rfl) (by kernel_rfl) (fun d => by kernel_rfl) LT.nil (fun a => qbm_run n a)
def qbu_an : Ann := { live := [(0, [0, 1, 5, 6])], boxed := [(0, 0), (1, 0), (6, 6), (7, 6)] }
def qbu_c : Code := (match Try.f35.body with | some c => c | none => .skip)
def qbu_l0 : Code := (match assoc 0 (loopsIn qbu_c 0) with | some c => c | none => .skip)
def qbu_a : StSh := ⟨.normal, [0, 1], (.cons .bool (.cons (.sl true false (.int .u64)) .nil)), .nil⟩
def qcd_an : Ann := { boxed := [(3, 4)] }
def qcd_c : Code := (match Try.f71.body with | some c => c | none => .skip)
def qcd_a : StSh := ⟨.normal, [0], (.cons (.int .u64) .nil), .nil⟩
def qcd_res : List StSh := [⟨.ret, [0], (.cons (.sl false false (.int .u8)) .nil), .nil⟩]
def qcd_Ed (n d : Nat) : Entry := ⟨qcd_a, qcd_res, qcd_D n d⟩
def qcd_tbl (n d : Nat) : FuncId → List Entry := fun f => bif Nat.beq f 71 then [qcd_Ed n d] else []
def qcd_loops (n : Nat) : Nat → Option LEntry := fun f => none
theorem qcd_run (n d : Nat) (v_0 : Int) : funDS (real _) tab (qcd_tbl n d) (qcd_loops n) qcd_an Try.f71 0 qcd_a qcd_res v_0 some = qcd_D n (d + 1) v_0 := by kernel_rfl
def qcd_E (n : Nat) : Entry := ⟨qcd_a, qcd_res, fun d => qcd n d⟩
theorem qcd_okd (n : Nat) (d : Nat) : EOK Try.prog 71 (qcd_Ed n d) :=
 Nat.rec (EOK.none (by kernel_rfl) fun _ => rfl) (fun d ih => EOK.ofS zc zb ze (tbl := qcd_tbl n d) (loops := qcd_loops n) (an := qcd_an) (old := []) (n := n) (c := qcd_c) (fn := Try.f71) (TblOK.cons (AllE.cons ih AllE.nil) TblOK.nil) (by kernel_rfl) (by kernel_rfl) (by kernel_rfl) (by kernel_rfl) (fun d => by kernel_rfl) LT.nil (fun a => qcd_run n d a)) d
theorem qcd_ok (n : Nat) : EOK Try.prog 71 (qcd_E n) := qcd_okd n n
def qbu_h0 : List StSh := [⟨.normal, [0, 1, 5, 6], (.cons .bool (.cons (.sl true false (.int .u64)) (.cons (.msw 0 0) (.cons (.int .i64) .nil)))), (.cons (.bts 0 false false false (.int .u8)) .nil)⟩]
def qbu_o0 : List StSh := [⟨.exit 0, [5], (.cons (.msw 0 0) .nil), (.cons (.bts 0 false false false (.int .u8)) .nil)⟩]
def qbu_L0 (n : Nat) : LEntry := ⟨qbu_h0, qbu_o0, qbu_W0 n⟩
def qbu_res : List StSh := [⟨.ret, [0], (.cons (.msw 0 0) .nil), (.cons (.bts 0 false false false (.int .u8)) .nil)⟩]
def qbu_tbl (n : Nat) : FuncId → List Entry := fun f => bif Nat.beq f 34 then [qbt_E n] else bif Nat.beq f 71 then [qcd_E n] else []
def qbu_loops (n : Nat) : Nat → Option LEntry := fun f => bif Nat.beq f 0 then some (qbu_L0 n) else none
theorem qbu_r0 (n : Nat) (old_0 : Bool) (l_1 : DA) (i_6 : Int) (m0 : DA) : roundK (real _) tab (qbu_tbl n) (qbu_loops n) qbu_an [] qbu_l0 0 [0, 1, 5, 6] qbu_h0 qbu_o0 ((old_0, (l_1, i_6)), m0) some = qbu_B0 n old_0 l_1 i_6 m0 := by kernel_rfl
theorem qbu_f0 (n : Nat) : LoopFact tab (qbu_tbl n) (qbu_loops n) qbu_an [] n 0 qbu_l0 (qbu_L0 n) := ⟨[0, 1, 5, 6], (fun s => qbu_B0 n s.1.1 s.1.2.1 s.1.2.2 s.2), by kernel_rfl, by kernel_rfl, fun s => rfl, fun s => qbu_r0 n s.1.1 s.1.2.1 s.1.2.2 s.2⟩
theorem qbu_run (n : Nat) (old_0 : Bool) (l_1 : DA) : funD (real _) tab (qbu_tbl n) (qbu_loops n) qbu_an Try.f35 qbu_a qbu_res (old_0, l_1) some = qbu n old_0 l_1 := by kernel_rfl
def qbu_E (n : Nat) : Entry := ⟨qbu_a, qbu_res, fun d => qbu n d.1 d.2⟩
theorem qbu_ok (n : Nat) : EOK Try.prog 35 (qbu_E n) :=
 EOK.of zc zb ze (tbl := qbu_tbl n) (loops := qbu_loops n) (an := qbu_an) (old := []) (n := n) (c := qbu_c) (fn := Try.f35) (TblOK.cons (AllE.cons (qbt_ok n) AllE.nil) (TblOK.cons (AllE.cons (qcd_ok n) AllE.nil) TblOK.nil)) (by kernel_rfl) (by kernel_rfl) (by kernel_rfl) (by kernel_rfl) (fun d => by kernel_rfl) (LT.cons (by kernel_rfl) (qbu_f0 n) LT.nil) (fun a => qbu_run n a.1 a.2)
def qbx_an : Ann := { boxed := [(1, 4)] }
def qbx_c : Code := (match Try.f37.body with | some c => c | none => .skip)
def qbx_a : StSh := ⟨.normal, [0, 1], (.cons .bool (.cons (.sl true false (.int .u64)) .nil)), .nil⟩
def qbx_res : List StSh := [⟨.ret, [0], (.cons (.sl false false (.int .u8)) .nil), .nil⟩]
def qbx_tbl (n : Nat) : FuncId → List Entry := fun f => bif Nat.beq f 35 then [qbu_E n] else []
def qbx_loops (n : Nat) : Nat → Option LEntry := fun f => none
theorem qbx_run (n : Nat) (old_0 : Bool) (l_1 : DA) : funDS (real _) tab (qbx_tbl n) (qbx_loops n) qbx_an Try.f37 0 qbx_a qbx_res (old_0, l_1) some = qbx n old_0 l_1 := by kernel_rfl
def qbx_E (n : Nat) : Entry := ⟨qbx_a, qbx_res, fun d => qbx n d.1 d.2⟩
theorem qbx_ok (n : Nat) : EOK Try.prog 37 (qbx_E n) :=
 EOK.ofS zc zb ze (tbl := qbx_tbl n) (loops := qbx_loops n) (an := qbx_an) (old := []) (n := n) (c := qbx_c) (fn := Try.f37) (TblOK.cons (AllE.cons (qbu_ok n) AllE.nil) TblOK.nil) (by kernel_rfl) (by kernel_rfl) (by kernel_rfl) (by kernel_rfl) (fun d => by kernel_rfl) LT.nil (fun a => qbx_run n a.1 a.2)
def qbp_h0 : List StSh := [⟨.normal, [2, 3, 7, 8, 9, 10, 11], (.cons .bool (.cons (.ptr 0 0 0 0) (.cons (.msw 1 0) (.cons (.msw 2 0) (.cons (.msw 3 0) (.cons (.msw 4 0) (.cons (.int .i64) .nil))))))), (.cons (.bcells 0 false 1 (.cons (.sl true true yA) (.cons (.sl true true yB) (.cons (.sl true true yC) (.cons (.int .i64) (.cons (.int .i64) (.cons (.int .i64) (.cons (.int .u64) .nil)))))))) (.cons (.bts 0 false false false (.int .u8)) (.cons (.bts 0 false false false (.int .u8)) (.cons (.bts 0 false false false (.int .u8)) (.cons (.bts 0 false false false (.int .u8)) .nil)))))⟩]
def qbp_o0 : List StSh := [⟨.exit 0, [2, 3, 7, 8, 9, 10], (.cons .bool (.cons (.ptr 0 0 0 0) (.cons (.msw 1 0) (.cons (.msw 2 0) (.cons (.msw 3 0) (.cons (.msw 4 0) .nil)))))), (.cons (.bcells 0 false 1 (.cons (.sl true true yA) (.cons (.sl true true yB) (.cons (.sl true true yC) (.cons (.int .i64) (.cons (.int .i64) (.cons (.int .i64) (.cons (.int .u64) .nil)))))))) (.cons (.bts 0 false false false (.int .u8)) (.cons (.bts 0 false false false (.int .u8)) (.cons (.bts 0 false false false (.int .u8)) (.cons (.bts 0 false false false (.int .u8)) .nil)))))⟩]
def qbp_L0 (n : Nat) : LEntry := ⟨qbp_h0, qbp_o0, qbp_W0 n⟩
def qbp_h2 : List StSh := [⟨.normal, [2, 3, 7, 8, 9, 10, 13], (.cons .bool (.cons (.ptr 0 0 0 0) (.cons (.msw 1 0) (.cons (.msw 2 0) (.cons (.msw 3 0) (.cons (.msw 4 0) (.cons (.int .i64) .nil))))))), (.cons (.bcells 0 false 1 (.cons (.sl true true yA) (.cons (.sl true true yB) (.cons (.sl true true yC) (.cons (.int .i64) (.cons (.int .i64) (.cons (.int .i64) (.cons (.int .u64) .nil)))))))) (.cons (.bts 0 false false false (.int .u8)) (.cons (.bts 0 false false false (.int .u8)) (.cons (.bts 0 false false false (.int .u8)) (.cons (.bts 0 false false false (.int .u8)) .nil)))))⟩]
def qbp_o2 : List StSh := [⟨.exit 2, [2, 3, 7, 8, 9, 10], (.cons .bool (.cons (.ptr 0 0 0 0) (.cons (.msw 1 0) (.cons (.msw 2 0) (.cons (.msw 3 0) (.cons (.msw 4 0) .nil)))))), (.cons (.bcells 0 false 1 (.cons (.sl true true yA) (.cons (.sl true true yB) (.cons (.sl true true yC) (.cons (.int .i64) (.cons (.int .i64) (.cons (.int .i64) (.cons (.int .u64) .nil)))))))) (.cons (.bts 0 false false false (.int .u8)) (.cons (.bts 0 false false false (.int .u8)) (.cons (.bts 0 false false false (.int .u8)) (.cons (.bts 0 false false false (.int .u8)) .nil)))))⟩]
def qbp_L2 (n : Nat) : LEntry := ⟨qbp_h2, qbp_o2, qbp_W2 n⟩
def qbp_h4 : List StSh := [⟨.normal, [2, 3, 7, 8, 9, 10, 15], (.cons .bool (.cons (.ptr 0 0 0 0) (.cons (.msw 1 0) (.cons (.msw 2 0) (.cons (.msw 3 0) (.cons (.msw 4 0) (.cons (.int .i64) .nil))))))), (.cons (.bcells 0 false 1 (.cons (.sl true true yA) (.cons (.sl true true yB) (.cons (.sl true true yC) (.cons (.int .i64) (.cons (.int .i64) (.cons (.int .i64) (.cons (.int .u64) .nil)))))))) (.cons (.bts 0 false false false (.int .u8)) (.cons (.bts 0 false false false (.int .u8)) (.cons (.bts 0 false false false (.int .u8)) (.cons (.bts 0 false false false (.int .u8)) .nil)))))⟩]
def qbp_o4 : List StSh := [⟨.exit 4, [2, 3, 7, 8, 9, 10], (.cons .bool (.cons (.ptr 0 0 0 0) (.cons (.msw 1 0) (.cons (.msw 2 0) (.cons (.msw 3 0) (.cons (.msw 4 0) .nil)))))), (.cons (.bcells 0 false 1 (.cons (.sl true true yA) (.cons (.sl true true yB) (.cons (.sl true true yC) (.cons (.int .i64) (.cons (.int .i64) (.cons (.int .i64) (.cons (.int .u64) .nil)))))))) (.cons (.bts 0 false false false (.int .u8)) (.cons (.bts 0 false false false (.int .u8)) (.cons (.bts 0 false false false (.int .u8)) (.cons (.bts 0 false false false (.int .u8)) .nil)))))⟩]
def qbp_L4 (n : Nat) : LEntry := ⟨qbp_h4, qbp_o4, qbp_W4 n⟩
def qca_an : Ann := { boxed := [(0, 0), (1, 0), (1, 2), (1, 7)] }
def qca_c : Code := (match Try.f18.body with | some c => c | none => .skip)
def qca_a : StSh := ⟨.normal, [0], (.cons (.sl true false (.int .u8)) .nil), .nil⟩
def qcc_an : Ann := { live := [(0, [0, 3, 4]), (2, [0, 3, 4, 5])] }
def qcc_c : Code := (match Try.f52.body with | some c => c | none => .skip)
def qcc_l0 : Code := (match assoc 0 (loopsIn qcc_c 0) with | some c => c | none => .skip)
def qcc_l2 : Code := (match assoc 2 (loopsIn qcc_c 0) with | some c => c | none => .skip)
def qcc_a : StSh := ⟨.normal, [0], (.cons (.sl true false (.int .u8)) .nil), .nil⟩
def qcc_h2 : List StSh := [⟨.normal, [0, 3, 4, 5], (.cons (.sl true false (.int .u8)) (.cons (.int .u32) (.cons (.int .i64) (.cons (.int .i64) .nil)))), .nil⟩]
def qcc_o2 : List StSh := [⟨.exit 2, [0, 3, 4], (.cons (.sl true false (.int .u8)) (.cons (.int .u32) (.cons (.int .i64) .nil))), .nil⟩]
def qcc_L2 (n : Nat) : LEntry := ⟨qcc_h2, qcc_o2, qcc_W2 n⟩
def qcc_h0 : List StSh := [⟨.normal, [0, 3, 4], (.cons (.sl true false (.int .u8)) (.cons (.int .u32) (.cons (.int .i64) .nil))), .nil⟩]
def qcc_o0 : List StSh := [⟨.exit 0, [3], (.cons (.int .u32) .nil), .nil⟩]
def qcc_L0 (n : Nat) : LEntry := ⟨qcc_h0, qcc_o0, qcc_W0 n⟩
def qcc_res : List StSh := [⟨.ret, [0], (.cons (.int .u32) .nil), .nil⟩]
def qcc_tbl (n : Nat) : FuncId → List Entry := fun f => []
def qcc_loops (n : Nat) : Nat → Option LEntry := fun f => bif Nat.beq f 2 then some (qcc_L2 n) else bif Nat.beq f 0 then some (qcc_L0 n) else none
theorem qcc_r2 (n : Nat) (b_0 : DA) (n_3 : Int) (i_4 : Int) (k_5 : Int) : roundK (real _) tab (qcc_tbl n) (qcc_loops n) qcc_an [] qcc_l2 2 [0, 3, 4, 5] qcc_h2 qcc_o2 (b_0, (n_3, (i_4, k_5))) some = qcc_B2 n b_0 n_3 i_4 k_5 := by kernel_rfl
theorem qcc_f2 (n : Nat) : LoopFact tab (qcc_tbl n) (qcc_loops n) qcc_an [] n 2 qcc_l2 (qcc_L2 n) := ⟨[0, 3, 4, 5], (fun s => qcc_B2 n s.1 s.2.1 s.2.2.1 s.2.2.2), by kernel_rfl, by kernel_rfl, fun s => rfl, fun s => qcc_r2 n s.1 s.2.1 s.2.2.1 s.2.2.2⟩
theorem qcc_r0 (n : Nat) (b_0 : DA) (n_3 : Int) (i_4 : Int) : roundK (real _) tab (qcc_tbl n) (qcc_loops n) qcc_an [] qcc_l0 0 [0, 3, 4] qcc_h0 qcc_o0 (b_0, (n_3, i_4)) some = qcc_B0 n b_0 n_3 i_4 := by kernel_rfl
theorem qcc_f0 (n : Nat) : LoopFact tab (qcc_tbl n) (qcc_loops n) qcc_an [] n 0 qcc_l0 (qcc_L0 n) := ⟨[0, 3, 4], (fun s => qcc_B0 n s.1 s.2.1 s.2.2), by kernel_rfl, by kernel_rfl, fun s => rfl, fun s => qcc_r0 n s.1 s.2.1 s.2.2⟩
theorem qcc_run (n : Nat) (b_0 : DA) : funDS (real _) tab (qcc_tbl n) (qcc_loops n) qcc_an Try.f52 0 qcc_a qcc_res b_0 some = qcc n b_0 := by kernel_rfl
def qcc_E (n : Nat) : Entry := ⟨qcc_a, qcc_res, fun d => qcc n d⟩
theorem qcc_ok (n : Nat) : EOK Try.prog 52 (qcc_E n) :=
 EOK.ofS zc zb ze (tbl := qcc_tbl n) (loops := qcc_loops n) (an := qcc_an) (old := []) (n := n) (c := qcc_c) (fn := Try.f52) TblOK.nil (by kernel_rfl) (by kernel_rfl) (by kernel_rfl) (by kernel_rfl) (fun d => by kernel_rfl) (LT.cons (by kernel_rfl) (qcc_f2 n) (LT.cons (by kernel_rfl) (qcc_f0 n) LT.nil)) (fun a => qcc_run n a)
def qca_res : List StSh := [⟨.ret, [0], (.cons (.msw 0 0) .nil), (.cons (.bts 0 false false false (.int .u8)) .nil)⟩]
def qca_tbl (n : Nat) : FuncId → List Entry := fun f => bif Nat.beq f 52 then [qcc_E n] else bif Nat.beq f 34 then [qbt_E n] else []
def qca_loops (n : Nat) : Nat → Option LEntry := fun f => none
theorem qca_run (n : Nat) (b_0 : DA) : funD (real _) tab (qca_tbl n) (qca_loops n) qca_an Try.f18 qca_a qca_res b_0 some = qca n b_0 := by kernel_rfl
def qca_E (n : Nat) : Entry := ⟨qca_a, qca_res, fun d => qca n d⟩
theorem qca_ok (n : Nat) : EOK Try.prog 18 (qca_E n) :=
 EOK.of zc zb ze (tbl := qca_tbl n) (loops := qca_loops n) (an := qca_an) (old := []) (n := n) (c := qca_c) (fn := Try.f18) (TblOK.cons (AllE.cons (qcc_ok n) AllE.nil) (TblOK.cons (AllE.cons (qbt_ok n) AllE.nil) TblOK.nil)) (by kernel_rfl) (by kernel_rfl) (by kernel_rfl) (by kernel_rfl) (fun d => by kernel_rfl) LT.nil (fun a => qca_run n a)
def qbp_res : List StSh := [⟨.ret, [0], (.cons (.msw 0 0) .nil), (.cons (.bts 0 false false false (.int .u8)) .nil)⟩]
def qbp_tbl (n : Nat) : FuncId → List Entry := fun f => bif Nat.beq f 34 then [qbt_E n] else bif Nat.beq f 36 then [qbm_E n] else bif Nat.beq f 35 then [qbu_E n] else bif Nat.beq f 37 then [qbx_E n] else bif Nat.beq f 18 then [qca_E n] else []
def qbp_loops (n : Nat) : Nat → Option LEntry := fun f => bif Nat.beq f 0 then some (qbp_L0 n) else bif Nat.beq f 2 then some (qbp_L2 n) else bif Nat.beq f 4 then some (qbp_L4 n) else none
theorem qbp_r0 (n : Nat) (t2 : Bool) (t11 : Int) (m0 : DE) (m0_1 : DE) (m0_2 : DB) (m0_3 : Int) (m0_4 : Int) (m0_5 : Int) (m0_6 : Int) (m1 : DA) (m2 : DA) (m3 : DA) (m4 : DA) : roundK (real _) tab (qbp_tbl n) (qbp_loops n) qbp_an [] qbp_l0 0 [2, 3, 7, 8, 9, 10, 11] qbp_h0 qbp_o0 ((t2, t11), ((m0, (m0_1, (m0_2, (m0_3, (m0_4, (m0_5, m0_6)))))), (m1, (m2, (m3, m4))))) some = qbp_B0 n t2 t11 m0 m0_1 m0_2 m0_3 m0_4 m0_5 m0_6 m1 m2 m3 m4 := by kernel_rfl
theorem qbp_f0 (n : Nat) : LoopFact tab (qbp_tbl n) (qbp_loops n) qbp_an [] n 0 qbp_l0 (qbp_L0 n) := ⟨[2, 3, 7, 8, 9, 10, 11], (fun s => qbp_B0 n s.1.1 s.1.2 s.2.1.1 s.2.1.2.1 s.2.1.2.2.1 s.2.1.2.2.2.1 s.2.1.2.2.2.2.1 s.2.1.2.2.2.2.2.1 s.2.1.2.2.2.2.2.2 s.2.2.1 s.2.2.2.1 s.2.2.2.2.1 s.2.2.2.2.2), by kernel_rfl, by kernel_rfl, fun s => rfl, fun s => qbp_r0 n s.1.1 s.1.2 s.2.1.1 s.2.1.2.1 s.2.1.2.2.1 s.2.1.2.2.2.1 s.2.1.2.2.2.2.1 s.2.1.2.2.2.2.2.1 s.2.1.2.2.2.2.2.2 s.2.2.1 s.2.2.2.1 s.2.2.2.2.1 s.2.2.2.2.2⟩
theorem qbp_r2 (n : Nat) (t2 : Bool) (t13 : Int) (m0 : DE) (m0_1 : DE) (m0_2 : DB) (m0_3 : Int) (m0_4 : Int) (m0_5 : Int) (m0_6 : Int) (m1 : DA) (m2 : DA) (m3 : DA) (m4 : DA) : roundK (real _) tab (qbp_tbl n) (qbp_loops n) qbp_an [] qbp_l2 2 [2, 3, 7, 8, 9, 10, 13] qbp_h2 qbp_o2 ((t2, t13), ((m0, (m0_1, (m0_2, (m0_3, (m0_4, (m0_5, m0_6)))))), (m1, (m2, (m3, m4))))) some = qbp_B2 n t2 t13 m0 m0_1 m0_2 m0_3 m0_4 m0_5 m0_6 m1 m2 m3 m4 := by kernel_rfl
theorem qbp_f2 (n : Nat) : LoopFact tab (qbp_tbl n) (qbp_loops n) qbp_an [] n 2 qbp_l2 (qbp_L2 n) := ⟨[2, 3, 7, 8, 9, 10, 13], (fun s => qbp_B2 n s.1.1 s.1.2 s.2.1.1 s.2.1.2.1 s.2.1.2.2.1 s.2.1.2.2.2.1 s.2.1.2.2.2.2.1 s.2.1.2.2.2.2.2.1 s.2.1.2.2.2.2.2.2 s.2.2.1 s.2.2.2.1 s.2.2.2.2.1 s.2.2.2.2.2), by kernel_rfl, by kernel_rfl, fun s => rfl, fun s => qbp_r2 n s.1.1 s.1.2 s.2.1.1 s.2.1.2.1 s.2.1.2.2.1 s.2.1.2.2.2.1 s.2.1.2.2.2.2.1 s.2.1.2.2.2.2.2.1 s.2.1.2.2.2.2.2.2 s.2.2.1 s.2.2.2.1 s.2.2.2.2.1 s.2.2.2.2.2⟩
theorem qbp_r4 (n : Nat) (t2 : Bool) (t15 : Int) (m0 : DE) (m0_1 : DE) (m0_2 : DB) (m0_3 : Int) (m0_4 : Int) (m0_5 : Int) (m0_6 : Int) (m1 : DA) (m2 : DA) (m3 : DA) (m4 : DA) : roundK (real _) tab (qbp_tbl n) (qbp_loops n) qbp_an [] qbp_l4 4 [2, 3, 7, 8, 9, 10, 15] qbp_h4 qbp_o4 ((t2, t15), ((m0, (m0_1, (m0_2, (m0_3, (m0_4, (m0_5, m0_6)))))), (m1, (m2, (m3, m4))))) some = qbp_B4 n t2 t15 m0 m0_1 m0_2 m0_3 m0_4 m0_5 m0_6 m1 m2 m3 m4 := by kernel_rfl
theorem qbp_f4 (n : Nat) : LoopFact tab (qbp_tbl n) (qbp_loops n) qbp_an [] n 4 qbp_l4 (qbp_L4 n) := ⟨[2, 3, 7, 8, 9, 10, 15], (fun s => qbp_B4 n s.1.1 s.1.2 s.2.1.1 s.2.1.2.1 s.2.1.2.2.1 s.2.1.2.2.2.1 s.2.1.2.2.2.2.1 s.2.1.2.2.2.2.2.1 s.2.1.2.2.2.2.2.2 s.2.2.1 s.2.2.2.1 s.2.2.2.2.1 s.2.2.2.2.2), by kernel_rfl, by kernel_rfl, fun s => rfl, fun s => qbp_r4 n s.1.1 s.1.2 s.2.1.1 s.2.1.2.1 s.2.1.2.2.1 s.2.1.2.2.2.1 s.2.1.2.2.2.2.1 s.2.1.2.2.2.2.2.1 s.2.1.2.2.2.2.2.2 s.2.2.1 s.2.2.2.1 s.2.2.2.2.1 s.2.2.2.2.2⟩
theorem qbp_run (n : Nat) (t0 : DE) (t0_1 : DE) (t0_2 : DB) (t0_3 : Int) (t0_4 : Int) (t0_5 : Int) (t0_6 : Int) (t1 : Int) (t2 : Bool) : funD (real _) tab (qbp_tbl n) (qbp_loops n) qbp_an Try.f14 qbp_a qbp_res ((t0, (t0_1, (t0_2, (t0_3, (t0_4, (t0_5, t0_6)))))), (t1, t2)) some = qbp n t0 t0_1 t0_2 t0_3 t0_4 t0_5 t0_6 t1 t2 := by kernel_rfl
def qbp_E (n : Nat) : Entry := ⟨qbp_a, qbp_res, fun d => qbp n d.1.1 d.1.2.1 d.1.2.2.1 d.1.2.2.2.1 d.1.2.2.2.2.1 d.1.2.2.2.2.2.1 d.1.2.2.2.2.2.2 d.2.1 d.2.2⟩
theorem qbp_ok (n : Nat) : EOK Try.prog 14 (qbp_E n) :=
 EOK.of zc zb ze (tbl := qbp_tbl n) (loops := qbp_loops n) (an := qbp_an) (old := []) (n := n) (c := qbp_c) (fn := Try.f14) (TblOK.cons (AllE.cons (qbt_ok n) AllE.nil) (TblOK.cons (AllE.cons (qbm_ok n) AllE.nil) (TblOK.cons (AllE.cons (qbu_ok n) AllE.nil) (TblOK.cons (AllE.cons (qbx_ok n) AllE.nil) (TblOK.cons (AllE.cons (qca_ok n) AllE.nil) TblOK.nil))))) (by kernel_rfl) (by kernel_rfl) (by kernel_rfl) (by kernel_rfl) (fun d => by kernel_rfl) (LT.cons (by kernel_rfl) (qbp_f0 n) (LT.cons (by kernel_rfl) (qbp_f2 n) (LT.cons (by kernel_rfl) (qbp_f4 n) LT.nil))) (fun a => qbp_run n a.1.1 a.1.2.1 a.1.2.2.1 a.1.2.2.2.1 a.1.2.2.2.2.1 a.1.2.2.2.2.2.1 a.1.2.2.2.2.2.2 a.2.1 a.2.2)
def qby_an : Ann := { live := [(0, [0, 1, 5])] }
def qby_c : Code := (match Try.f13.body with | some c => c | none => .skip)
def qby_l0 : Code := (match assoc 0 (loopsIn qby_c 0) with | some c => c | none => .skip)
def qby_a : StSh := ⟨.normal, [0, 1], (.cons (.sl true false (.int .u8)) (.cons (.sl true false (.int .u8)) .nil)), .nil⟩
def qby_h0 : List StSh := [⟨.normal, [0, 1, 5], (.cons (.sl true false (.int .u8)) (.cons (.sl true false (.int .u8)) (.cons (.int .i64) .nil))), .nil⟩]
def qby_o0 : List StSh := [⟨.ret, [4], (.cons .bool .nil), .nil⟩, ⟨.exit 0, [], .nil, .nil⟩]
def qby_L0 (n : Nat) : LEntry := ⟨qby_h0, qby_o0, qby_W0 n⟩
def qby_res : List StSh := [⟨.ret, [0], (.cons .bool .nil), .nil⟩]
def qby_tbl (n : Nat) : FuncId → List Entry := fun f => []
def qby_loops (n : Nat) : Nat → Option LEntry := fun f => bif Nat.beq f 0 then some (qby_L0 n) else none
theorem qby_r0 (n : Nat) (a_0 : DA) (b_1 : DA) (i_5 : Int) : roundK (real _) tab (qby_tbl n) (qby_loops n) qby_an [] qby_l0 0 [0, 1, 5] qby_h0 qby_o0 (a_0, (b_1, i_5)) some = qby_B0 n a_0 b_1 i_5 := by kernel_rfl
theorem qby_f0 (n : Nat) : LoopFact tab (qby_tbl n) (qby_loops n) qby_an [] n 0 qby_l0 (qby_L0 n) := ⟨[0, 1, 5], (fun s => qby_B0 n s.1 s.2.1 s.2.2), by kernel_rfl, by kernel_rfl, fun s => rfl, fun s => qby_r0 n s.1 s.2.1 s.2.2⟩
theorem qby_run (n : Nat) (a_0 : DA) (b_1 : DA) : funDS (real _) tab (qby_tbl n) (qby_loops n) qby_an Try.f13 0 qby_a qby_res (a_0, b_1) some = qby n a_0 b_1 := by kernel_rfl
def qby_E (n : Nat) : Entry := ⟨qby_a, qby_res, fun d => qby n d.1 d.2⟩
theorem qby_ok (n : Nat) : EOK Try.prog 13 (qby_E n) :=
 EOK.ofS zc zb ze (tbl := qby_tbl n) (loops := qby_loops n) (an := qby_an) (old := []) (n := n) (c := qby_c) (fn := Try.f13) TblOK.nil (by kernel_rfl) (by kernel_rfl) (by kernel_rfl) (by kernel_rfl) (fun d => by kernel_rfl) (LT.cons (by kernel_rfl) (qby_f0 n) LT.nil) (fun a => qby_run n a.1 a.2)
def qbn_an : Ann := { live := [(0, [1, 3, 4]), (2, [1, 3, 5]), (4, [1, 3, 6]), (6, [3, 7])], boxed := [(1, 6), (5, 14), (9, 14), (13, 8)] }
def qbn_c : Code := (match Try.f16.body with | some c => c | none => .skip)
def qbn_l0 : Code := (match assoc 0 (loopsIn qbn_c 0) with | some c => c | none => .skip)
def qbn_l2 : Code := (match assoc 2 (loopsIn qbn_c 0) with | some c => c | none => .skip)
def qbn_l4 : Code := (match assoc 4 (loopsIn qbn_c 0) with | some c => c | none => .skip)
def qbn_l6 : Code := (match assoc 6 (loopsIn qbn_c 0) with | some c => c | none => .skip)
def qbn_a : StSh := ⟨.normal, [0], (.cons (.agg (.cons (.sl true true yA) (.cons (.sl true true yB) (.cons (.sl true true yC) (.cons (.int .i64) (.cons (.int .i64) (.cons (.int .i64) (.cons (.int .u64) .nil)))))))) .nil), .nil⟩
def qbn_h0 : List StSh := [⟨.normal, [1, 3, 4], (.cons (.ptr 0 0 0 0) (.cons (.msw 1 0) (.cons (.int .i64) .nil))), (.cons (.bcells 0 false 1 (.cons (.sl true true yA) (.cons (.sl true true yB) (.cons (.sl true true yC) (.cons (.int .i64) (.cons (.int .i64) (.cons (.int .i64) (.cons (.int .u64) .nil)))))))) (.cons (.bts 0 false false false (.int .i64)) .nil))⟩]
def qbn_o0 : List StSh := [⟨.exit 0, [1, 3], (.cons (.ptr 0 0 0 0) (.cons (.msw 1 0) .nil)), (.cons (.bcells 0 false 1 (.cons (.sl true true yA) (.cons (.sl true true yB) (.cons (.sl true true yC) (.cons (.int .i64) (.cons (.int .i64) (.cons (.int .i64) (.cons (.int .u64) .nil)))))))) (.cons (.bts 0 false false false (.int .i64)) .nil))⟩]
def qbn_L0 (n : Nat) : LEntry := ⟨qbn_h0, qbn_o0, qbn_W0 n⟩
def qbn_h2 : List StSh := [⟨.normal, [1, 3, 5], (.cons (.ptr 0 0 0 0) (.cons (.msw 1 0) (.cons (.int .i64) .nil))), (.cons (.bcells 0 false 1 (.cons (.sl true true yA) (.cons (.sl true true yB) (.cons (.sl true true yC) (.cons (.int .i64) (.cons (.int .i64) (.cons (.int .i64) (.cons (.int .u64) .nil)))))))) (.cons (.bts 0 false false false (.int .i64)) .nil))⟩]
def qbn_o2 : List StSh := [⟨.exit 2, [1, 3], (.cons (.ptr 0 0 0 0) (.cons (.msw 1 0) .nil)), (.cons (.bcells 0 false 1 (.cons (.sl true true yA) (.cons (.sl true true yB) (.cons (.sl true true yC) (.cons (.int .i64) (.cons (.int .i64) (.cons (.int .i64) (.cons (.int .u64) .nil)))))))) (.cons (.bts 0 false false false (.int .i64)) .nil))⟩]
def qbn_L2 (n : Nat) : LEntry := ⟨qbn_h2, qbn_o2, qbn_W2 n⟩
def qbn_h4 : List StSh := [⟨.normal, [1, 3, 6], (.cons (.ptr 0 0 0 0) (.cons (.msw 1 0) (.cons (.int .i64) .nil))), (.cons (.bcells 0 false 1 (.cons (.sl true true yA) (.cons (.sl true true yB) (.cons (.sl true true yC) (.cons (.int .i64) (.cons (.int .i64) (.cons (.int .i64) (.cons (.int .u64) .nil)))))))) (.cons (.bts 0 false false false (.int .i64)) .nil))⟩]
def qbn_o4 : List StSh := [⟨.exit 4, [3], (.cons (.msw 1 0) .nil), (.cons (.bcells 0 false 1 (.cons (.sl true true yA) (.cons (.sl true true yB) (.cons (.sl true true yC) (.cons (.int .i64) (.cons (.int .i64) (.cons (.int .i64) (.cons (.int .u64) .nil)))))))) (.cons (.bts 0 false false false (.int .i64)) .nil))⟩]
def qbn_L4 (n : Nat) : LEntry := ⟨qbn_h4, qbn_o4, qbn_W4 n⟩
def qbn_h6 : List StSh := [⟨.normal, [3, 7], (.cons (.msw 0 0) (.cons (.int .i64) .nil)), (.cons (.bts 0 false false false (.int .i64)) .nil)⟩]
def qbn_o6 : List StSh := [⟨.ret, [2], (.cons .bool .nil), (.cons (.bts 0 false false false (.int .i64)) .nil)⟩, ⟨.exit 6, [], .nil, (.cons (.bts 0 false false false (.int .i64)) .nil)⟩]
def qbn_L6 (n : Nat) : LEntry := ⟨qbn_h6, qbn_o6, qbn_W6 n⟩
def qbn_res : List StSh := [⟨.ret, [0], (.cons .bool .nil), .nil⟩]
def qbn_tbl (n : Nat) : FuncId → List Entry := fun f => []
def qbn_loops (n : Nat) : Nat → Option LEntry := fun f => bif Nat.beq f 0 then some (qbn_L0 n) else bif Nat.beq f 2 then some (qbn_L2 n) else bif Nat.beq f 4 then some (qbn_L4 n) else bif Nat.beq f 6 then some (qbn_L6 n) else none
theorem qbn_r0 (n : Nat) (t4 : Int) (m0 : DE) (m0_1 : DE) (m0_2 : DB) (m0_3 : Int) (m0_4 : Int) (m0_5 : Int) (m0_6 : Int) (m1 : DA) : roundK (real _) tab (qbn_tbl n) (qbn_loops n) qbn_an [] qbn_l0 0 [1, 3, 4] qbn_h0 qbn_o0 (t4, ((m0, (m0_1, (m0_2, (m0_3, (m0_4, (m0_5, m0_6)))))), m1)) some = qbn_B0 n t4 m0 m0_1 m0_2 m0_3 m0_4 m0_5 m0_6 m1 := by kernel_rfl
theorem qbn_f0 (n : Nat) : LoopFact tab (qbn_tbl n) (qbn_loops n) qbn_an [] n 0 qbn_l0 (qbn_L0 n) := ⟨[1, 3, 4], (fun s => qbn_B0 n s.1 s.2.1.1 s.2.1.2.1 s.2.1.2.2.1 s.2.1.2.2.2.1 s.2.1.2.2.2.2.1 s.2.1.2.2.2.2.2.1 s.2.1.2.2.2.2.2.2 s.2.2), by kernel_rfl, by kernel_rfl, fun s => rfl, fun s => qbn_r0 n s.1 s.2.1.1 s.2.1.2.1 s.2.1.2.2.1 s.2.1.2.2.2.1 s.2.1.2.2.2.2.1 s.2.1.2.2.2.2.2.1 s.2.1.2.2.2.2.2.2 s.2.2⟩
theorem qbn_r2 (n : Nat) (t5 : Int) (m0 : DE) (m0_1 : DE) (m0_2 : DB) (m0_3 : Int) (m0_4 : Int) (m0_5 : Int) (m0_6 : Int) (m1 : DA) : roundK (real _) tab (qbn_tbl n) (qbn_loops n) qbn_an [] qbn_l2 2 [1, 3, 5] qbn_h2 qbn_o2 (t5, ((m0, (m0_1, (m0_2, (m0_3, (m0_4, (m0_5, m0_6)))))), m1)) some = qbn_B2 n t5 m0 m0_1 m0_2 m0_3 m0_4 m0_5 m0_6 m1 := by kernel_rfl
theorem qbn_f2 (n : Nat) : LoopFact tab (qbn_tbl n) (qbn_loops n) qbn_an [] n 2 qbn_l2 (qbn_L2 n) := ⟨[1, 3, 5], (fun s => qbn_B2 n s.1 s.2.1.1 s.2.1.2.1 s.2.1.2.2.1 s.2.1.2.2.2.1 s.2.1.2.2.2.2.1 s.2.1.2.2.2.2.2.1 s.2.1.2.2.2.2.2.2 s.2.2), by kernel_rfl, by kernel_rfl, fun s => rfl, fun s => qbn_r2 n s.1 s.2.1.1 s.2.1.2.1 s.2.1.2.2.1 s.2.1.2.2.2.1 s.2.1.2.2.2.2.1 s.2.1.2.2.2.2.2.1 s.2.1.2.2.2.2.2.2 s.2.2⟩
theorem qbn_r4 (n : Nat) (t6 : Int) (m0 : DE) (m0_1 : DE) (m0_2 : DB) (m0_3 : Int) (m0_4 : Int) (m0_5 : Int) (m0_6 : Int) (m1 : DA) : roundK (real _) tab (qbn_tbl n) (qbn_loops n) qbn_an [] qbn_l4 4 [1, 3, 6] qbn_h4 qbn_o4 (t6, ((m0, (m0_1, (m0_2, (m0_3, (m0_4, (m0_5, m0_6)))))), m1)) some = qbn_B4 n t6 m0 m0_1 m0_2 m0_3 m0_4 m0_5 m0_6 m1 := by kernel_rfl
theorem qbn_f4 (n : Nat) : LoopFact tab (qbn_tbl n) (qbn_loops n) qbn_an [] n 4 qbn_l4 (qbn_L4 n) := ⟨[1, 3, 6], (fun s => qbn_B4 n s.1 s.2.1.1 s.2.1.2.1 s.2.1.2.2.1 s.2.1.2.2.2.1 s.2.1.2.2.2.2.1 s.2.1.2.2.2.2.2.1 s.2.1.2.2.2.2.2.2 s.2.2), by kernel_rfl, by kernel_rfl, fun s => rfl, fun s => qbn_r4 n s.1 s.2.1.1 s.2.1.2.1 s.2.1.2.2.1 s.2.1.2.2.2.1 s.2.1.2.2.2.2.1 s.2.1.2.2.2.2.2.1 s.2.1.2.2.2.2.2.2 s.2.2⟩
theorem qbn_r6 (n : Nat) (t7 : Int) (m0 : DA) : roundK (real _) tab (qbn_tbl n) (qbn_loops n) qbn_an [] qbn_l6 6 [3, 7] qbn_h6 qbn_o6 (t7, m0) some = qbn_B6 n t7 m0 := by kernel_rfl
theorem qbn_f6 (n : Nat) : LoopFact tab (qbn_tbl n) (qbn_loops n) qbn_an [] n 6 qbn_l6 (qbn_L6 n) := ⟨[3, 7], (fun s => qbn_B6 n s.1 s.2), by kernel_rfl, by kernel_rfl, fun s => rfl, fun s => qbn_r6 n s.1 s.2⟩
theorem qbn_run (n : Nat) (t0 : DE) (t0_1 : DE) (t0_2 : DB) (t0_3 : Int) (t0_4 : Int) (t0_5 : Int) (t0_6 : Int) : funDS (real _) tab (qbn_tbl n) (qbn_loops n) qbn_an Try.f16 0 qbn_a qbn_res (t0, (t0_1, (t0_2, (t0_3, (t0_4, (t0_5, t0_6)))))) some = qbn n t0 t0_1 t0_2 t0_3 t0_4 t0_5 t0_6 := by kernel_rfl
def qbn_E (n : Nat) : Entry := ⟨qbn_a, qbn_res, fun d => qbn n d.1 d.2.1 d.2.2.1 d.2.2.2.1 d.2.2.2.2.1 d.2.2.2.2.2.1 d.2.2.2.2.2.2⟩
theorem qbn_ok (n : Nat) : EOK Try.prog 16 (qbn_E n) :=
 EOK.ofS zc zb ze (tbl := qbn_tbl n) (loops := qbn_loops n) (an := qbn_an) (old := []) (n := n) (c := qbn_c) (fn := Try.f16) TblOK.nil (by kernel_rfl) (by kernel_rfl) (by kernel_rfl) (by kernel_rfl) (fun d => by kernel_rfl) (LT.cons (by kernel_rfl) (qbn_f0 n) (LT.cons (by kernel_rfl) (qbn_f2 n) (LT.cons (by kernel_rfl) (qbn_f4 n) (LT.cons (by kernel_rfl) (qbn_f6 n) LT.nil)))) (fun a => qbn_run n a.1 a.2.1 a.2.2.1 a.2.2.2.1 a.2.2.2.2.1 a.2.2.2.2.2.1 a.2.2.2.2.2.2)
def qbk_an : Ann := { live := [(0, [2, 3, 5])] }
def qbk_c : Code := (match Try.f17.body with | some c => c | none => .skip)
def qbk_l0 : Code := (match assoc 0 (loopsIn qbk_c 0) with | some c => c | none => .skip)
def qbk_a : StSh := ⟨.normal, [0, 1], (.cons (.agg (.cons (.sl true true yA) (.cons (.sl true true yB) (.cons (.sl true true yC) (.cons (.int .i64) (.cons (.int .i64) (.cons (.int .i64) (.cons (.int .u64) .nil)))))))) (.cons (.agg (.cons (.sl true true yA) (.cons (.sl true true yB) (.cons (.sl true true yC) (.cons (.int .i64) (.cons (.int .i64) (.cons (.int .i64) (.cons (.int .u64) .nil)))))))) .nil)), .nil⟩
def qbq_an : Ann := { live := [(0, [0, 1, 5])] }
def qbq_c : Code := (match Try.f49.body with | some c => c | none => .skip)
def qbq_l0 : Code := (match assoc 0 (loopsIn qbq_c 0) with | some c => c | none => .skip)
def qbq_a : StSh := ⟨.normal, [0, 1], (.cons (.sl true false (.int .u64)) (.cons (.sl true false (.int .u64)) .nil)), .nil⟩
def qbq_h0 : List StSh := [⟨.normal, [0, 1, 5], (.cons (.sl true false (.int .u64)) (.cons (.sl true false (.int .u64)) (.cons (.int .i64) .nil))), .nil⟩]
def qbq_o0 : List StSh := [⟨.ret, [4], (.cons .bool .nil), .nil⟩, ⟨.exit 0, [], .nil, .nil⟩]
def qbq_L0 (n : Nat) : LEntry := ⟨qbq_h0, qbq_o0, qbq_W0 n⟩
def qbq_res : List StSh := [⟨.ret, [0], (.cons .bool .nil), .nil⟩]
def qbq_tbl (n : Nat) : FuncId → List Entry := fun f => []
def qbq_loops (n : Nat) : Nat → Option LEntry := fun f => bif Nat.beq f 0 then some (qbq_L0 n) else none
theorem qbq_r0 (n : Nat) (a_0 : DA) (b_1 : DA) (i_5 : Int) : roundK (real _) tab (qbq_tbl n) (qbq_loops n) qbq_an [] qbq_l0 0 [0, 1, 5] qbq_h0 qbq_o0 (a_0, (b_1, i_5)) some = qbq_B0 n a_0 b_1 i_5 := by kernel_rfl
theorem qbq_f0 (n : Nat) : LoopFact tab (qbq_tbl n) (qbq_loops n) qbq_an [] n 0 qbq_l0 (qbq_L0 n) := ⟨[0, 1, 5], (fun s => qbq_B0 n s.1 s.2.1 s.2.2), by kernel_rfl, by kernel_rfl, fun s => rfl, fun s => qbq_r0 n s.1 s.2.1 s.2.2⟩
theorem qbq_run (n : Nat) (a_0 : DA) (b_1 : DA) : funDS (real _) tab (qbq_tbl n) (qbq_loops n) qbq_an Try.f49 0 qbq_a qbq_res (a_0, b_1) some = qbq n a_0 b_1 := by kernel_rfl
def qbq_E (n : Nat) : Entry := ⟨qbq_a, qbq_res, fun d => qbq n d.1 d.2⟩
theorem qbq_ok (n : Nat) : EOK Try.prog 49 (qbq_E n) :=
 EOK.ofS zc zb ze (tbl := qbq_tbl n) (loops := qbq_loops n) (an := qbq_an) (old := []) (n := n) (c := qbq_c) (fn := Try.f49) TblOK.nil (by kernel_rfl) (by kernel_rfl) (by kernel_rfl) (by kernel_rfl) (fun d => by kernel_rfl) (LT.cons (by kernel_rfl) (qbq_f0 n) LT.nil) (fun a => qbq_run n a.1 a.2)
def qbk_h0 : List StSh := [⟨.normal, [2, 3, 5], (.cons (.ptr 0 0 0 0) (.cons (.ptr 1 0 0 0) (.cons (.int .i64) .nil))), (.cons (.bcells 0 false 1 (.cons (.sl true true yA) (.cons (.sl true true yB) (.cons (.sl true true yC) (.cons (.int .i64) (.cons (.int .i64) (.cons (.int .i64) (.cons (.int .u64) .nil)))))))) (.cons (.bcells 0 false 1 (.cons (.sl true true yA) (.cons (.sl true true yB) (.cons (.sl true true yC) (.cons (.int .i64) (.cons (.int .i64) (.cons (.int .i64) (.cons (.int .u64) .nil)))))))) .nil))⟩]
def qbk_o0 : List StSh := [⟨.ret, [4], (.cons .bool .nil), (.cons (.bcells 0 false 1 (.cons (.sl true true yA) (.cons (.sl true true yB) (.cons (.sl true true yC) (.cons (.int .i64) (.cons (.int .i64) (.cons (.int .i64) (.cons (.int .u64) .nil)))))))) (.cons (.bcells 0 false 1 (.cons (.sl true true yA) (.cons (.sl true true yB) (.cons (.sl true true yC) (.cons (.int .i64) (.cons (.int .i64) (.cons (.int .i64) (.cons (.int .u64) .nil)))))))) (.cons (.bcells 0 false 1 (.cons (.int .i64) (.cons (.int .i64) (.cons (.sl true false (.int .u64)) (.cons (.sl true false (.int .u64)) .nil))))) (.cons (.bcells 0 false 1 (.cons (.int .i64) (.cons (.int .i64) (.cons (.sl true false (.int .u64)) (.cons (.sl true false (.int .u64)) .nil))))) .nil))))⟩, ⟨.exit 0, [2, 3], (.cons (.ptr 0 0 0 0) (.cons (.ptr 1 0 0 0) .nil)), (.cons (.bcells 0 false 1 (.cons (.sl true true yA) (.cons (.sl true true yB) (.cons (.sl true true yC) (.cons (.int .i64) (.cons (.int .i64) (.cons (.int .i64) (.cons (.int .u64) .nil)))))))) (.cons (.bcells 0 false 1 (.cons (.sl true true yA) (.cons (.sl true true yB) (.cons (.sl true true yC) (.cons (.int .i64) (.cons (.int .i64) (.cons (.int .i64) (.cons (.int .u64) .nil)))))))) .nil))⟩]
def qbk_L0 (n : Nat) : LEntry := ⟨qbk_h0, qbk_o0, qbk_W0 n⟩
def qbv_an : Ann := { live := [(0, [0, 1, 5])] }
def qbv_c : Code := (match Try.f50.body with | some c => c | none => .skip)
def qbv_l0 : Code := (match assoc 0 (loopsIn qbv_c 0) with | some c => c | none => .skip)
def qbv_a : StSh := ⟨.normal, [0, 1], (.cons (.sl true true yB) (.cons (.sl true true yB) .nil)), .nil⟩
def qbv_h0 : List StSh := [⟨.normal, [0, 1, 5], (.cons (.sl true true yB) (.cons (.sl true true yB) (.cons (.int .i64) .nil))), .nil⟩]
def qbv_o0 : List StSh := [⟨.ret, [4], (.cons .bool .nil), .nil⟩, ⟨.exit 0, [], .nil, .nil⟩]
def qbv_L0 (n : Nat) : LEntry := ⟨qbv_h0, qbv_o0, qbv_W0 n⟩
def qbv_res : List StSh := [⟨.ret, [0], (.cons .bool .nil), .nil⟩]
def qbv_tbl (n : Nat) : FuncId → List Entry := fun f => bif Nat.beq f 49 then [qbq_E n] else bif Nat.beq f 13 then [qby_E n] else []
def qbv_loops (n : Nat) : Nat → Option LEntry := fun f => bif Nat.beq f 0 then some (qbv_L0 n) else none
theorem qbv_r0 (n : Nat) (t0 : DE) (t1 : DE) (t5 : Int) : roundK (real _) tab (qbv_tbl n) (qbv_loops n) qbv_an [] qbv_l0 0 [0, 1, 5] qbv_h0 qbv_o0 (t0, (t1, t5)) some = qbv_B0 n t0 t1 t5 := by kernel_rfl
theorem qbv_f0 (n : Nat) : LoopFact tab (qbv_tbl n) (qbv_loops n) qbv_an [] n 0 qbv_l0 (qbv_L0 n) := ⟨[0, 1, 5], (fun s => qbv_B0 n s.1 s.2.1 s.2.2), by kernel_rfl, by kernel_rfl, fun s => rfl, fun s => qbv_r0 n s.1 s.2.1 s.2.2⟩
theorem qbv_run (n : Nat) (t0 : DE) (t1 : DE) : funDS (real _) tab (qbv_tbl n) (qbv_loops n) qbv_an Try.f50 0 qbv_a qbv_res (t0, t1) some = qbv n t0 t1 := by kernel_rfl
def qbv_E (n : Nat) : Entry := ⟨qbv_a, qbv_res, fun d => qbv n d.1 d.2⟩
theorem qbv_ok (n : Nat) : EOK Try.prog 50 (qbv_E n) :=
 EOK.ofS zc zb ze (tbl := qbv_tbl n) (loops := qbv_loops n) (an := qbv_an) (old := []) (n := n) (c := qbv_c) (fn := Try.f50) (TblOK.cons (AllE.cons (qbq_ok n) AllE.nil) (TblOK.cons (AllE.cons (qby_ok n) AllE.nil) TblOK.nil)) (by kernel_rfl) (by kernel_rfl) (by kernel_rfl) (by kernel_rfl) (fun d => by kernel_rfl) (LT.cons (by kernel_rfl) (qbv_f0 n) LT.nil) (fun a => qbv_run n a.1 a.2)
def qbz_an : Ann := { live := [(0, [0, 1, 5])] }
def qbz_c : Code := (match Try.f51.body with | some c => c | none => .skip)
def qbz_l0 : Code := (match assoc 0 (loopsIn qbz_c 0) with | some c => c | none => .skip)
def qbz_a : StSh := ⟨.normal, [0, 1], (.cons (.sl true true yC) (.cons (.sl true true yC) .nil)), .nil⟩
def qbz_h0 : List StSh := [⟨.normal, [0, 1, 5], (.cons (.sl true true yC) (.cons (.sl true true yC) (.cons (.int .i64) .nil))), .nil⟩]
def qbz_o0 : List StSh := [⟨.ret, [4], (.cons .bool .nil), .nil⟩, ⟨.exit 0, [], .nil, .nil⟩]
def qbz_L0 (n : Nat) : LEntry := ⟨qbz_h0, qbz_o0, qbz_W0 n⟩
def qbz_res : List StSh := [⟨.ret, [0], (.cons .bool .nil), .nil⟩]
def qbz_tbl (n : Nat) : FuncId → List Entry := fun f => []
def qbz_loops (n : Nat) : Nat → Option LEntry := fun f => bif Nat.beq f 0 then some (qbz_L0 n) else none
theorem qbz_r0 (n : Nat) (a_0 : DB) (b_1 : DB) (i_5 : Int) : roundK (real _) tab (qbz_tbl n) (qbz_loops n) qbz_an [] qbz_l0 0 [0, 1, 5] qbz_h0 qbz_o0 (a_0, (b_1, i_5)) some = qbz_B0 n a_0 b_1 i_5 := by kernel_rfl
theorem qbz_f0 (n : Nat) : LoopFact tab (qbz_tbl n) (qbz_loops n) qbz_an [] n 0 qbz_l0 (qbz_L0 n) := ⟨[0, 1, 5], (fun s => qbz_B0 n s.1 s.2.1 s.2.2), by kernel_rfl, by kernel_rfl, fun s => rfl, fun s => qbz_r0 n s.1 s.2.1 s.2.2⟩
theorem qbz_run (n : Nat) (a_0 : DB) (b_1 : DB) : funDS (real _) tab (qbz_tbl n) (qbz_loops n) qbz_an Try.f51 0 qbz_a qbz_res (a_0, b_1) some = qbz n a_0 b_1 := by kernel_rfl
def qbz_E (n : Nat) : Entry := ⟨qbz_a, qbz_res, fun d => qbz n d.1 d.2⟩
theorem qbz_ok (n : Nat) : EOK Try.prog 51 (qbz_E n) :=
 EOK.ofS zc zb ze (tbl := qbz_tbl n) (loops := qbz_loops n) (an := qbz_an) (old := []) (n := n) (c := qbz_c) (fn := Try.f51) TblOK.nil (by kernel_rfl) (by kernel_rfl) (by kernel_rfl) (by kernel_rfl) (fun d => by kernel_rfl) (LT.cons (by kernel_rfl) (qbz_f0 n) LT.nil) (fun a => qbz_run n a.1 a.2)
def qbk_res : List StSh := [⟨.ret, [0], (.cons .bool .nil), .nil⟩]
def qbk_tbl (n : Nat) : FuncId → List Entry := fun f => bif Nat.beq f 49 then [qbq_E n] else bif Nat.beq f 50 then [qbv_E n] else bif Nat.beq f 51 then [qbz_E n] else []
def qbk_loops (n : Nat) : Nat → Option LEntry := fun f => bif Nat.beq f 0 then some (qbk_L0 n) else none
theorem qbk_r0 (n : Nat) (t5 : Int) (m0 : DE) (m0_1 : DE) (m0_2 : DB) (m0_3 : Int) (m0_4 : Int) (m0_5 : Int) (m0_6 : Int) (m1 : DE) (m1_1 : DE) (m1_2 : DB) (m1_3 : Int) (m1_4 : Int) (m1_5 : Int) (m1_6 : Int) : roundK (real _) tab (qbk_tbl n) (qbk_loops n) qbk_an [] qbk_l0 0 [2, 3, 5] qbk_h0 qbk_o0 (t5, ((m0, (m0_1, (m0_2, (m0_3, (m0_4, (m0_5, m0_6)))))), (m1, (m1_1, (m1_2, (m1_3, (m1_4, (m1_5, m1_6)))))))) some = qbk_B0 n t5 m0 m0_1 m0_2 m0_3 m0_4 m0_5 m0_6 m1 m1_1 m1_2 m1_3 m1_4 m1_5 m1_6 := by kernel_rfl
theorem qbk_f0 (n : Nat) : LoopFact tab (qbk_tbl n) (qbk_loops n) qbk_an [] n 0 qbk_l0 (qbk_L0 n) := ⟨[2, 3, 5], (fun s => qbk_B0 n s.1 s.2.1.1 s.2.1.2.1 s.2.1.2.2.1 s.2.1.2.2.2.1 s.2.1.2.2.2.2.1 s.2.1.2.2.2.2.2.1 s.2.1.2.2.2.2.2.2 s.2.2.1 s.2.2.2.1 s.2.2.2.2.1 s.2.2.2.2.2.1 s.2.2.2.2.2.2.1 s.2.2.2.2.2.2.2.1 s.2.2.2.2.2.2.2.2), by kernel_rfl, by kernel_rfl, fun s => rfl, fun s => qbk_r0 n s.1 s.2.1.1 s.2.1.2.1 s.2.1.2.2.1 s.2.1.2.2.2.1 s.2.1.2.2.2.2.1 s.2.1.2.2.2.2.2.1 s.2.1.2.2.2.2.2.2 s.2.2.1 s.2.2.2.1 s.2.2.2.2.1 s.2.2.2.2.2.1 s.2.2.2.2.2.2.1 s.2.2.2.2.2.2.2.1 s.2.2.2.2.2.2.2.2⟩
theorem qbk_run (n : Nat) (t0 : DE) (t0_1 : DE) (t0_2 : DB) (t0_3 : Int) (t0_4 : Int) (t0_5 : Int) (t0_6 : Int) (t1 : DE) (t1_1 : DE) (t1_2 : DB) (t1_3 : Int) (t1_4 : Int) (t1_5 : Int) (t1_6 : Int) : funDS (real _) tab (qbk_tbl n) (qbk_loops n) qbk_an Try.f17 0 qbk_a qbk_res ((t0, (t0_1, (t0_2, (t0_3, (t0_4, (t0_5, t0_6)))))), (t1, (t1_1, (t1_2, (t1_3, (t1_4, (t1_5, t1_6))))))) some = qbk n t0 t0_1 t0_2 t0_3 t0_4 t0_5 t0_6 t1 t1_1 t1_2 t1_3 t1_4 t1_5 t1_6 := by kernel_rfl
def qbk_E (n : Nat) : Entry := ⟨qbk_a, qbk_res, fun d => qbk n d.1.1 d.1.2.1 d.1.2.2.1 d.1.2.2.2.1 d.1.2.2.2.2.1 d.1.2.2.2.2.2.1 d.1.2.2.2.2.2.2 d.2.1 d.2.2.1 d.2.2.2.1 d.2.2.2.2.1 d.2.2.2.2.2.1 d.2.2.2.2.2.2.1 d.2.2.2.2.2.2.2⟩
theorem qbk_ok (n : Nat) : EOK Try.prog 17 (qbk_E n) :=
 EOK.ofS zc zb ze (tbl := qbk_tbl n) (loops := qbk_loops n) (an := qbk_an) (old := []) (n := n) (c := qbk_c) (fn := Try.f17) (TblOK.cons (AllE.cons (qbq_ok n) AllE.nil) (TblOK.cons (AllE.cons (qbv_ok n) AllE.nil) (TblOK.cons (AllE.cons (qbz_ok n) AllE.nil) TblOK.nil))) (by kernel_rfl) (by kernel_rfl) (by kernel_rfl) (by kernel_rfl) (fun d => by kernel_rfl) (LT.cons (by kernel_rfl) (qbk_f0 n) LT.nil) (fun a => qbk_run n a.1.1 a.1.2.1 a.1.2.2.1 a.1.2.2.2.1 a.1.2.2.2.2.1 a.1.2.2.2.2.2.1 a.1.2.2.2.2.2.2 a.2.1 a.2.2.1 a.2.2.2.1 a.2.2.2.2.1 a.2.2.2.2.2.1 a.2.2.2.2.2.2.1 a.2.2.2.2.2.2.2)
def law20ImageBack_res : List StSh := [⟨.ret, [0], (.cons .bool .nil), .nil⟩]
def law20ImageBack_tbl (n : Nat) : FuncId → List Entry := fun f => bif Nat.beq f 10 then [qbo_E n] else bif Nat.beq f 11 then [qbh_E n] else bif Nat.beq f 12 then [qbl_E n] else bif Nat.beq f 14 then [qbp_E n] else bif Nat.beq f 13 then [qby_E n] else bif Nat.beq f 15 then [qbi_E n] else bif Nat.beq f 16 then [qbn_E n] else bif Nat.beq f 17 then [qbk_E n] else []
def law20ImageBack_loops (n : Nat) : Nat → Option LEntry := fun f => none
theorem zep (n : Nat) (s_0 : DE) (s_0_1 : DE) (s_0_2 : DB) (s_0_3 : Int) (s_0_4 : Int) (s_0_5 : Int) (s_0_6 : Int) (print_1 : Int) : funDS (real _) tab (law20ImageBack_tbl n) (law20ImageBack_loops n) law20ImageBack_an Try.f3 0 law20ImageBack_a law20ImageBack_res ((s_0, (s_0_1, (s_0_2, (s_0_3, (s_0_4, (s_0_5, s_0_6)))))), print_1) some = law20ImageBack n s_0 s_0_1 s_0_2 s_0_3 s_0_4 s_0_5 s_0_6 print_1 := by kernel_rfl
def law20ImageBack_E (n : Nat) : Entry := ⟨law20ImageBack_a, law20ImageBack_res, fun d => law20ImageBack n d.1.1 d.1.2.1 d.1.2.2.1 d.1.2.2.2.1 d.1.2.2.2.2.1 d.1.2.2.2.2.2.1 d.1.2.2.2.2.2.2 d.2⟩
theorem zeU (n : Nat) : EOK Try.prog 3 (law20ImageBack_E n) :=
 EOK.ofS zc zb ze (tbl := law20ImageBack_tbl n) (loops := law20ImageBack_loops n) (an := law20ImageBack_an) (old := []) (n := n) (c := law20ImageBack_c) (fn := Try.f3) (TblOK.cons (AllE.cons (qbo_ok n) AllE.nil) (TblOK.cons (AllE.cons (qbh_ok n) AllE.nil) (TblOK.cons (AllE.cons (qbl_ok n) AllE.nil) (TblOK.cons (AllE.cons (qbp_ok n) AllE.nil) (TblOK.cons (AllE.cons (qby_ok n) AllE.nil) (TblOK.cons (AllE.cons (qbi_ok n) AllE.nil) (TblOK.cons (AllE.cons (qbn_ok n) AllE.nil) (TblOK.cons (AllE.cons (qbk_ok n) AllE.nil) TblOK.nil)))))))) (by kernel_rfl) (by kernel_rfl) (by kernel_rfl) (by kernel_rfl) (fun d => by kernel_rfl) LT.nil (fun a => zep n a.1.1 a.1.2.1 a.1.2.2.1 a.1.2.2.2.1 a.1.2.2.2.2.1 a.1.2.2.2.2.2.1 a.1.2.2.2.2.2.2 a.2)
def law21OldTurned_an : Ann := { live := [(0, [2, 3, 7, 8, 9])], raw := [(3, 1)] }
def law21OldTurned_c : Code := (match Try.f7.body with | some c => c | none => .skip)
def law21OldTurned_l0 : Code := (match assoc 0 (loopsIn law21OldTurned_c 0) with | some c => c | none => .skip)
def law21OldTurned_a : StSh := ⟨.normal, [0, 1, 2], (.cons (.agg (.cons (.sl true true yA) (.cons (.sl true true yB) (.cons (.sl true true yC) (.cons (.int .i64) (.cons (.int .i64) (.cons (.int .i64) (.cons (.int .u64) .nil)))))))) (.cons (.int .u16) (.cons (.int .u32) .nil))), .nil⟩
def qbr_an : Ann := { live := [(0, [1, 3, 4]), (2, [1, 3, 5])] }
def qbr_c : Code := (match Try.f20.body with | some c => c | none => .skip)
def qbr_l0 : Code := (match assoc 0 (loopsIn qbr_c 0) with | some c => c | none => .skip)
def qbr_l2 : Code := (match assoc 2 (loopsIn qbr_c 0) with | some c => c | none => .skip)
def qbr_a : StSh := ⟨.normal, [0], (.cons (.agg (.cons (.sl true true yA) (.cons (.sl true true yB) (.cons (.sl true true yC) (.cons (.int .i64) (.cons (.int .i64) (.cons (.int .i64) (.cons (.int .u64) .nil)))))))) .nil), .nil⟩
def qbr_h0 : List StSh := [⟨.normal, [1, 3, 4], (.cons (.ptr 0 0 0 0) (.cons (.int .i64) (.cons (.int .i64) .nil))), (.cons (.bcells 0 false 1 (.cons (.sl true true yA) (.cons (.sl true true yB) (.cons (.sl true true yC) (.cons (.int .i64) (.cons (.int .i64) (.cons (.int .i64) (.cons (.int .u64) .nil)))))))) .nil)⟩]
def qbr_o0 : List StSh := [⟨.exit 0, [1, 3], (.cons (.ptr 0 0 0 0) (.cons (.int .i64) .nil)), (.cons (.bcells 0 false 1 (.cons (.sl true true yA) (.cons (.sl true true yB) (.cons (.sl true true yC) (.cons (.int .i64) (.cons (.int .i64) (.cons (.int .i64) (.cons (.int .u64) .nil)))))))) .nil)⟩]
def qbr_L0 (n : Nat) : LEntry := ⟨qbr_h0, qbr_o0, qbr_W0 n⟩
def qbr_h2 : List StSh := [⟨.normal, [1, 3, 5], (.cons (.ptr 0 0 0 0) (.cons (.int .i64) (.cons (.int .i64) .nil))), (.cons (.bcells 0 false 1 (.cons (.sl true true yA) (.cons (.sl true true yB) (.cons (.sl true true yC) (.cons (.int .i64) (.cons (.int .i64) (.cons (.int .i64) (.cons (.int .u64) .nil)))))))) .nil)⟩]
def qbr_o2 : List StSh := [⟨.exit 2, [3], (.cons (.int .i64) .nil), (.cons (.bcells 0 false 1 (.cons (.sl true true yA) (.cons (.sl true true yB) (.cons (.sl true true yC) (.cons (.int .i64) (.cons (.int .i64) (.cons (.int .i64) (.cons (.int .u64) .nil)))))))) .nil)⟩]
def qbr_L2 (n : Nat) : LEntry := ⟨qbr_h2, qbr_o2, qbr_W2 n⟩
def qbr_res : List StSh := [⟨.ret, [0], (.cons .bool .nil), .nil⟩]
def qbr_tbl (n : Nat) : FuncId → List Entry := fun f => []
def qbr_loops (n : Nat) : Nat → Option LEntry := fun f => bif Nat.beq f 0 then some (qbr_L0 n) else bif Nat.beq f 2 then some (qbr_L2 n) else none
theorem qbr_r0 (n : Nat) (t3 : Int) (t4 : Int) (m0 : DE) (m0_1 : DE) (m0_2 : DB) (m0_3 : Int) (m0_4 : Int) (m0_5 : Int) (m0_6 : Int) : roundK (real _) tab (qbr_tbl n) (qbr_loops n) qbr_an [] qbr_l0 0 [1, 3, 4] qbr_h0 qbr_o0 ((t3, t4), (m0, (m0_1, (m0_2, (m0_3, (m0_4, (m0_5, m0_6))))))) some = qbr_B0 n t3 t4 m0 m0_1 m0_2 m0_3 m0_4 m0_5 m0_6 := by kernel_rfl
theorem qbr_f0 (n : Nat) : LoopFact tab (qbr_tbl n) (qbr_loops n) qbr_an [] n 0 qbr_l0 (qbr_L0 n) := ⟨[1, 3, 4], (fun s => qbr_B0 n s.1.1 s.1.2 s.2.1 s.2.2.1 s.2.2.2.1 s.2.2.2.2.1 s.2.2.2.2.2.1 s.2.2.2.2.2.2.1 s.2.2.2.2.2.2.2), by kernel_rfl, by kernel_rfl, fun s => rfl, fun s => qbr_r0 n s.1.1 s.1.2 s.2.1 s.2.2.1 s.2.2.2.1 s.2.2.2.2.1 s.2.2.2.2.2.1 s.2.2.2.2.2.2.1 s.2.2.2.2.2.2.2⟩
theorem qbr_r2 (n : Nat) (t3 : Int) (t5 : Int) (m0 : DE) (m0_1 : DE) (m0_2 : DB) (m0_3 : Int) (m0_4 : Int) (m0_5 : Int) (m0_6 : Int) : roundK (real _) tab (qbr_tbl n) (qbr_loops n) qbr_an [] qbr_l2 2 [1, 3, 5] qbr_h2 qbr_o2 ((t3, t5), (m0, (m0_1, (m0_2, (m0_3, (m0_4, (m0_5, m0_6))))))) some = qbr_B2 n t3 t5 m0 m0_1 m0_2 m0_3 m0_4 m0_5 m0_6 := by kernel_rfl
theorem qbr_f2 (n : Nat) : LoopFact tab (qbr_tbl n) (qbr_loops n) qbr_an [] n 2 qbr_l2 (qbr_L2 n) := ⟨[1, 3, 5], (fun s => qbr_B2 n s.1.1 s.1.2 s.2.1 s.2.2.1 s.2.2.2.1 s.2.2.2.2.1 s.2.2.2.2.2.1 s.2.2.2.2.2.2.1 s.2.2.2.2.2.2.2), by kernel_rfl, by kernel_rfl, fun s => rfl, fun s => qbr_r2 n s.1.1 s.1.2 s.2.1 s.2.2.1 s.2.2.2.1 s.2.2.2.2.1 s.2.2.2.2.2.1 s.2.2.2.2.2.2.1 s.2.2.2.2.2.2.2⟩
theorem qbr_run (n : Nat) (t0 : DE) (t0_1 : DE) (t0_2 : DB) (t0_3 : Int) (t0_4 : Int) (t0_5 : Int) (t0_6 : Int) : funDS (real _) tab (qbr_tbl n) (qbr_loops n) qbr_an Try.f20 0 qbr_a qbr_res (t0, (t0_1, (t0_2, (t0_3, (t0_4, (t0_5, t0_6)))))) some = qbr n t0 t0_1 t0_2 t0_3 t0_4 t0_5 t0_6 := by kernel_rfl
def qbr_E (n : Nat) : Entry := ⟨qbr_a, qbr_res, fun d => qbr n d.1 d.2.1 d.2.2.1 d.2.2.2.1 d.2.2.2.2.1 d.2.2.2.2.2.1 d.2.2.2.2.2.2⟩
theorem qbr_ok (n : Nat) : EOK Try.prog 20 (qbr_E n) :=
 EOK.ofS zc zb ze (tbl := qbr_tbl n) (loops := qbr_loops n) (an := qbr_an) (old := []) (n := n) (c := qbr_c) (fn := Try.f20) TblOK.nil (by kernel_rfl) (by kernel_rfl) (by kernel_rfl) (by kernel_rfl) (fun d => by kernel_rfl) (LT.cons (by kernel_rfl) (qbr_f0 n) (LT.cons (by kernel_rfl) (qbr_f2 n) LT.nil)) (fun a => qbr_run n a.1 a.2.1 a.2.2.1 a.2.2.2.1 a.2.2.2.2.1 a.2.2.2.2.2.1 a.2.2.2.2.2.2)
def qba_an : Ann := {}
def qba_c : Code := (match Try.f21.body with | some c => c | none => .skip)
def qba_a : StSh := ⟨.normal, [], .nil, .nil⟩
def qbw_an : Ann := { live := [(0, [2, 5, 38, 39, 40]), (2, [2, 5, 64, 65, 66]), (4, [5, 96, 97, 98])], boxed := [(1, 0), (23, 7)] }
def qbw_c : Code := (match Try.f53.body with | some c => c | none => .skip)
def qbw_l0 : Code := (match assoc 0 (loopsIn qbw_c 0) with | some c => c | none => .skip)
def qbw_l2 : Code := (match assoc 2 (loopsIn qbw_c 0) with | some c => c | none => .skip)
def qbw_l4 : Code := (match assoc 4 (loopsIn qbw_c 0) with | some c => c | none => .skip)
def qbw_a : StSh := ⟨.normal, [0, 1], (.cons (.agg (.cons (.sl true true yA) (.cons (.sl true true yB) (.cons (.sl true true yC) (.cons (.int .i64) (.cons (.int .i64) (.cons (.int .i64) (.cons (.int .u64) .nil)))))))) (.cons (.int .u32) .nil)), .nil⟩
def qch_an : Ann := {}
def qch_c : Code := (match Try.f79.body with | some c => c | none => .skip)
def qch_a : StSh := ⟨.normal, [0], (.cons (.int .i64) .nil), .nil⟩
def qch_res : List StSh := [⟨.ret, [0], (.cons (.int .u64) .nil), .nil⟩]
def qch_tbl (n : Nat) : FuncId → List Entry := fun f => []
def qch_loops (n : Nat) : Nat → Option LEntry := fun f => none
theorem qch_run (n : Nat) (n_0 : Int) : funDS (real _) tab (qch_tbl n) (qch_loops n) qch_an Try.f79 0 qch_a qch_res n_0 some = qch n n_0 := by kernel_rfl
def qch_E (n : Nat) : Entry := ⟨qch_a, qch_res, fun d => qch n d⟩
theorem qch_ok (n : Nat) : EOK Try.prog 79 (qch_E n) :=
 EOK.ofS zc zb ze (tbl := qch_tbl n) (loops := qch_loops n) (an := qch_an) (old := []) (n := n) (c := qch_c) (fn := Try.f79) TblOK.nil (by kernel_rfl) (by kernel_rfl) (by kernel_rfl) (by kernel_rfl) (fun d => by kernel_rfl) LT.nil (fun a => qch_run n a)
def qau_an : Ann := { live := [(0, [0, 6, 7, 8])], boxed := [(3, 7)] }
def qau_c : Code := (match Try.f78.body with | some c => c | none => .skip)
def qau_l0 : Code := (match assoc 0 (loopsIn qau_c 0) with | some c => c | none => .skip)
def qau_a : StSh := ⟨.normal, [0, 1], (.cons (.ptr 0 0 0 0) (.cons (.sl true false (.int .u64)) .nil)), (.cons (.bcells 0 false 1 (.cons (.msw 1 0) .nil)) (.cons (.bts 0 false false false (.int .u8)) .nil))⟩
def qau_h0 : List StSh := [⟨.normal, [0, 6, 7, 8], (.cons (.ptr 0 0 0 0) (.cons (.sl true false (.int .u64)) (.cons (.int .i64) (.cons (.int .i64) .nil)))), (.cons (.bcells 0 false 1 (.cons (.msw 1 0) .nil)) (.cons (.bts 0 false false false (.int .u8)) .nil))⟩]
def qau_o0 : List StSh := [⟨.exit 0, [], .nil, (.cons (.bcells 0 false 1 (.cons (.msw 1 0) .nil)) (.cons (.bts 0 false false false (.int .u8)) .nil))⟩]
def qau_L0 (n : Nat) : LEntry := ⟨qau_h0, qau_o0, qau_W0 n⟩
def qau_res : List StSh := [⟨.ret, [0], (.cons (.tup .nil) .nil), (.cons (.bcells 0 false 1 (.cons (.msw 1 0) .nil)) (.cons (.bts 0 false false false (.int .u8)) .nil))⟩]
def qau_tbl (n : Nat) : FuncId → List Entry := fun f => bif Nat.beq f 27 then [qcb_E n] else []
def qau_loops (n : Nat) : Nat → Option LEntry := fun f => bif Nat.beq f 0 then some (qau_L0 n) else none
theorem qau_r0 (n : Nat) (t6 : DA) (t7 : Int) (t8 : Int) (m1 : DA) : roundK (real _) tab (qau_tbl n) (qau_loops n) qau_an [some true, some false] qau_l0 0 [0, 6, 7, 8] qau_h0 qau_o0 ((t6, (t7, t8)), m1) some = qau_B0 n t6 t7 t8 m1 := by kernel_rfl
theorem qau_f0 (n : Nat) : LoopFact tab (qau_tbl n) (qau_loops n) qau_an [some true, some false] n 0 qau_l0 (qau_L0 n) := ⟨[0, 6, 7, 8], (fun s => qau_B0 n s.1.1 s.1.2.1 s.1.2.2 s.2), by kernel_rfl, by kernel_rfl, fun s => rfl, fun s => qau_r0 n s.1.1 s.1.2.1 s.1.2.2 s.2⟩
theorem qau_run (n : Nat) (list_1 : DA) (m1 : DA) : funDS (real _) tab (qau_tbl n) (qau_loops n) qau_an Try.f78 2 qau_a qau_res (list_1, m1) some = qau n list_1 m1 := by kernel_rfl
def qau_E (n : Nat) : Entry := ⟨qau_a, qau_res, fun d => qau n d.1 d.2⟩
theorem qau_ok (n : Nat) : EOK Try.prog 78 (qau_E n) :=
 EOK.ofS zc zb ze (tbl := qau_tbl n) (loops := qau_loops n) (an := qau_an) (old := [some true, some false]) (n := n) (c := qau_c) (fn := Try.f78) (TblOK.cons (AllE.cons (qcb_ok n) AllE.nil) TblOK.nil) (by kernel_rfl) (by kernel_rfl) (by kernel_rfl) (by kernel_rfl) (fun d => by kernel_rfl) (LT.cons (by kernel_rfl) (qau_f0 n) LT.nil) (fun a => qau_run n a.1 a.2)
def qce_an : Ann := {}
def qce_c : Code := (match Try.f80.body with | some c => c | none => .skip)
def qce_a : StSh := ⟨.normal, [0], (.cons .bool .nil), .nil⟩
def qce_res : List StSh := [⟨.ret, [0], (.cons (.int .u64) .nil), .nil⟩]
def qce_tbl (n : Nat) : FuncId → List Entry := fun f => []
def qce_loops (n : Nat) : Nat → Option LEntry := fun f => none
theorem qce_run (n : Nat) (yes_0 : Bool) : funDS (real _) tab (qce_tbl n) (qce_loops n) qce_an Try.f80 0 qce_a qce_res yes_0 some = qce n yes_0 := by kernel_rfl
def qce_E (n : Nat) : Entry := ⟨qce_a, qce_res, fun d => qce n d⟩
theorem qce_ok (n : Nat) : EOK Try.prog 80 (qce_E n) :=
 EOK.ofS zc zb ze (tbl := qce_tbl n) (loops := qce_loops n) (an := qce_an) (old := []) (n := n) (c := qce_c) (fn := Try.f80) TblOK.nil (by kernel_rfl) (by kernel_rfl) (by kernel_rfl) (by kernel_rfl) (fun d => by kernel_rfl) LT.nil (fun a => qce_run n a)
def qbw_h0 : List StSh := [⟨.normal, [2, 5, 38, 39, 40], (.cons (.ptr 0 0 0 0) (.cons (.ptr 1 0 0 0) (.cons (.sl true true yC) (.cons (.int .i64) (.cons (.int .i64) .nil))))), (.cons (.bcells 0 false 1 (.cons (.sl true true yA) (.cons (.sl true true yB) (.cons (.sl true true yC) (.cons (.int .i64) (.cons (.int .i64) (.cons (.int .i64) (.cons (.int .u64) .nil)))))))) (.cons (.bcells 0 false 1 (.cons (.msw 2 0) .nil)) (.cons (.bts 0 false false false (.int .u8)) .nil)))⟩]
def qbw_o0 : List StSh := [⟨.exit 0, [2, 5], (.cons (.ptr 0 0 0 0) (.cons (.ptr 1 0 0 0) .nil)), (.cons (.bcells 0 false 1 (.cons (.sl true true yA) (.cons (.sl true true yB) (.cons (.sl true true yC) (.cons (.int .i64) (.cons (.int .i64) (.cons (.int .i64) (.cons (.int .u64) .nil)))))))) (.cons (.bcells 0 false 1 (.cons (.msw 2 0) .nil)) (.cons (.bts 0 false false false (.int .u8)) .nil)))⟩]
def qbw_L0 (n : Nat) : LEntry := ⟨qbw_h0, qbw_o0, qbw_W0 n⟩
def qbe_an : Ann := {}
def qbe_c : Code := (match Try.f81.body with | some c => c | none => .skip)
def qbe_a : StSh := ⟨.normal, [0, 1], (.cons (.ptr 0 0 0 0) (.cons (.sl true false (.int .u64)) .nil)), (.cons (.bcells 0 false 1 (.cons (.msw 1 0) .nil)) (.cons (.bts 0 false false false (.int .u8)) .nil))⟩
def qbe_res : List StSh := [⟨.ret, [0], (.cons (.tup .nil) .nil), (.cons (.bcells 0 false 1 (.cons (.msw 1 0) .nil)) (.cons (.bts 0 false false false (.int .u8)) .nil))⟩]
def qbe_tbl (n : Nat) : FuncId → List Entry := fun f => bif Nat.beq f 79 then [qch_E n] else bif Nat.beq f 78 then [qau_E n] else []
def qbe_loops (n : Nat) : Nat → Option LEntry := fun f => none
theorem qbe_run (n : Nat) (list_1 : DA) (m1 : DA) : funDS (real _) tab (qbe_tbl n) (qbe_loops n) qbe_an Try.f81 2 qbe_a qbe_res (list_1, m1) some = qbe n list_1 m1 := by kernel_rfl
def qbe_E (n : Nat) : Entry := ⟨qbe_a, qbe_res, fun d => qbe n d.1 d.2⟩
theorem qbe_ok (n : Nat) : EOK Try.prog 81 (qbe_E n) :=
 EOK.ofS zc zb ze (tbl := qbe_tbl n) (loops := qbe_loops n) (an := qbe_an) (old := [some true, some false]) (n := n) (c := qbe_c) (fn := Try.f81) (TblOK.cons (AllE.cons (qch_ok n) AllE.nil) (TblOK.cons (AllE.cons (qau_ok n) AllE.nil) TblOK.nil)) (by kernel_rfl) (by kernel_rfl) (by kernel_rfl) (by kernel_rfl) (fun d => by kernel_rfl) LT.nil (fun a => qbe_run n a.1 a.2)
def qbw_h2 : List StSh := [⟨.normal, [2, 5, 64, 65, 66], (.cons (.ptr 0 0 0 0) (.cons (.ptr 1 0 0 0) (.cons (.sl true true yA) (.cons (.int .i64) (.cons (.int .i64) .nil))))), (.cons (.bcells 0 false 1 (.cons (.sl true true yA) (.cons (.sl true true yB) (.cons (.sl true true yC) (.cons (.int .i64) (.cons (.int .i64) (.cons (.int .i64) (.cons (.int .u64) .nil)))))))) (.cons (.bcells 0 false 1 (.cons (.msw 2 0) .nil)) (.cons (.bts 0 false false false (.int .u8)) .nil)))⟩]
def qbw_o2 : List StSh := [⟨.exit 2, [2, 5], (.cons (.ptr 0 0 0 0) (.cons (.ptr 1 0 0 0) .nil)), (.cons (.bcells 0 false 1 (.cons (.sl true true yA) (.cons (.sl true true yB) (.cons (.sl true true yC) (.cons (.int .i64) (.cons (.int .i64) (.cons (.int .i64) (.cons (.int .u64) .nil)))))))) (.cons (.bcells 0 false 1 (.cons (.msw 2 0) .nil)) (.cons (.bts 0 false false false (.int .u8)) .nil)))⟩]
def qbw_L2 (n : Nat) : LEntry := ⟨qbw_h2, qbw_o2, qbw_W2 n⟩
def qbw_h4 : List StSh := [⟨.normal, [5, 96, 97, 98], (.cons (.ptr 0 0 0 0) (.cons (.sl true true yB) (.cons (.int .i64) (.cons (.int .i64) .nil)))), (.cons (.bcells 0 false 1 (.cons (.msw 1 0) .nil)) (.cons (.bts 0 false false false (.int .u8)) .nil))⟩]
def qbw_o4 : List StSh := [⟨.exit 4, [5], (.cons (.ptr 0 0 0 0) .nil), (.cons (.bcells 0 false 1 (.cons (.msw 1 0) .nil)) (.cons (.bts 0 false false false (.int .u8)) .nil))⟩]
def qbw_L4 (n : Nat) : LEntry := ⟨qbw_h4, qbw_o4, qbw_W4 n⟩
def qbw_res : List StSh := [⟨.ret, [0], (.cons (.sl false false (.int .u8)) .nil), .nil⟩]
def qbw_tbl (n : Nat) : FuncId → List Entry := fun f => bif Nat.beq f 27 then [qcb_E n] else bif Nat.beq f 79 then [qch_E n] else bif Nat.beq f 78 then [qau_E n] else bif Nat.beq f 80 then [qce_E n] else bif Nat.beq f 81 then [qbe_E n] else bif Nat.beq f 33 then [qcg_E n] else []
def qbw_loops (n : Nat) : Nat → Option LEntry := fun f => bif Nat.beq f 0 then some (qbw_L0 n) else bif Nat.beq f 2 then some (qbw_L2 n) else bif Nat.beq f 4 then some (qbw_L4 n) else none
theorem qbw_r0 (n : Nat) (t38 : DB) (t39 : Int) (t40 : Int) (m0 : DE) (m0_1 : DE) (m0_2 : DB) (m0_3 : Int) (m0_4 : Int) (m0_5 : Int) (m0_6 : Int) (m2 : DA) : roundK (real _) tab (qbw_tbl n) (qbw_loops n) qbw_an [] qbw_l0 0 [2, 5, 38, 39, 40] qbw_h0 qbw_o0 ((t38, (t39, t40)), ((m0, (m0_1, (m0_2, (m0_3, (m0_4, (m0_5, m0_6)))))), m2)) some = qbw_B0 n t38 t39 t40 m0 m0_1 m0_2 m0_3 m0_4 m0_5 m0_6 m2 := by kernel_rfl
theorem qbw_f0 (n : Nat) : LoopFact tab (qbw_tbl n) (qbw_loops n) qbw_an [] n 0 qbw_l0 (qbw_L0 n) := ⟨[2, 5, 38, 39, 40], (fun s => qbw_B0 n s.1.1 s.1.2.1 s.1.2.2 s.2.1.1 s.2.1.2.1 s.2.1.2.2.1 s.2.1.2.2.2.1 s.2.1.2.2.2.2.1 s.2.1.2.2.2.2.2.1 s.2.1.2.2.2.2.2.2 s.2.2), by kernel_rfl, by kernel_rfl, fun s => rfl, fun s => qbw_r0 n s.1.1 s.1.2.1 s.1.2.2 s.2.1.1 s.2.1.2.1 s.2.1.2.2.1 s.2.1.2.2.2.1 s.2.1.2.2.2.2.1 s.2.1.2.2.2.2.2.1 s.2.1.2.2.2.2.2.2 s.2.2⟩
theorem qbw_r2 (n : Nat) (t64 : DE) (t65 : Int) (t66 : Int) (m0 : DE) (m0_1 : DE) (m0_2 : DB) (m0_3 : Int) (m0_4 : Int) (m0_5 : Int) (m0_6 : Int) (m2 : DA) : roundK (real _) tab (qbw_tbl n) (qbw_loops n) qbw_an [] qbw_l2 2 [2, 5, 64, 65, 66] qbw_h2 qbw_o2 ((t64, (t65, t66)), ((m0, (m0_1, (m0_2, (m0_3, (m0_4, (m0_5, m0_6)))))), m2)) some = qbw_B2 n t64 t65 t66 m0 m0_1 m0_2 m0_3 m0_4 m0_5 m0_6 m2 := by kernel_rfl
theorem qbw_f2 (n : Nat) : LoopFact tab (qbw_tbl n) (qbw_loops n) qbw_an [] n 2 qbw_l2 (qbw_L2 n) := ⟨[2, 5, 64, 65, 66], (fun s => qbw_B2 n s.1.1 s.1.2.1 s.1.2.2 s.2.1.1 s.2.1.2.1 s.2.1.2.2.1 s.2.1.2.2.2.1 s.2.1.2.2.2.2.1 s.2.1.2.2.2.2.2.1 s.2.1.2.2.2.2.2.2 s.2.2), by kernel_rfl, by kernel_rfl, fun s => rfl, fun s => qbw_r2 n s.1.1 s.1.2.1 s.1.2.2 s.2.1.1 s.2.1.2.1 s.2.1.2.2.1 s.2.1.2.2.2.1 s.2.1.2.2.2.2.1 s.2.1.2.2.2.2.2.1 s.2.1.2.2.2.2.2.2 s.2.2⟩
theorem qbw_r4 (n : Nat) (t96 : DE) (t97 : Int) (t98 : Int) (m1 : DA) : roundK (real _) tab (qbw_tbl n) (qbw_loops n) qbw_an [] qbw_l4 4 [5, 96, 97, 98] qbw_h4 qbw_o4 ((t96, (t97, t98)), m1) some = qbw_B4 n t96 t97 t98 m1 := by kernel_rfl
theorem qbw_f4 (n : Nat) : LoopFact tab (qbw_tbl n) (qbw_loops n) qbw_an [] n 4 qbw_l4 (qbw_L4 n) := ⟨[5, 96, 97, 98], (fun s => qbw_B4 n s.1.1 s.1.2.1 s.1.2.2 s.2), by kernel_rfl, by kernel_rfl, fun s => rfl, fun s => qbw_r4 n s.1.1 s.1.2.1 s.1.2.2 s.2⟩
theorem qbw_run (n : Nat) (t0 : DE) (t0_1 : DE) (t0_2 : DB) (t0_3 : Int) (t0_4 : Int) (t0_5 : Int) (t0_6 : Int) (t1 : Int) : funDS (real _) tab (qbw_tbl n) (qbw_loops n) qbw_an Try.f53 0 qbw_a qbw_res ((t0, (t0_1, (t0_2, (t0_3, (t0_4, (t0_5, t0_6)))))), t1) some = qbw n t0 t0_1 t0_2 t0_3 t0_4 t0_5 t0_6 t1 := by kernel_rfl
def qbw_E (n : Nat) : Entry := ⟨qbw_a, qbw_res, fun d => qbw n d.1.1 d.1.2.1 d.1.2.2.1 d.1.2.2.2.1 d.1.2.2.2.2.1 d.1.2.2.2.2.2.1 d.1.2.2.2.2.2.2 d.2⟩
theorem qbw_ok (n : Nat) : EOK Try.prog 53 (qbw_E n) :=
 EOK.ofS zc zb ze (tbl := qbw_tbl n) (loops := qbw_loops n) (an := qbw_an) (old := []) (n := n) (c := qbw_c) (fn := Try.f53) (TblOK.cons (AllE.cons (qcb_ok n) AllE.nil) (TblOK.cons (AllE.cons (qch_ok n) AllE.nil) (TblOK.cons (AllE.cons (qau_ok n) AllE.nil) (TblOK.cons (AllE.cons (qce_ok n) AllE.nil) (TblOK.cons (AllE.cons (qbe_ok n) AllE.nil) (TblOK.cons (AllE.cons (qcg_ok n) AllE.nil) TblOK.nil)))))) (by kernel_rfl) (by kernel_rfl) (by kernel_rfl) (by kernel_rfl) (fun d => by kernel_rfl) (LT.cons (by kernel_rfl) (qbw_f0 n) (LT.cons (by kernel_rfl) (qbw_f2 n) (LT.cons (by kernel_rfl) (qbw_f4 n) LT.nil))) (fun a => qbw_run n a.1.1 a.1.2.1 a.1.2.2.1 a.1.2.2.2.1 a.1.2.2.2.2.1 a.1.2.2.2.2.2.1 a.1.2.2.2.2.2.2 a.2)
def qbs_an : Ann := {}
def qbs_c : Code := (match Try.f22.body with | some c => c | none => .skip)
def qbs_a : StSh := ⟨.normal, [0], (.cons (.sl true false (.int .u8)) .nil), .nil⟩
def qaf_an : Ann := {}
def qaf_c : Code := (match Try.f54.body with | some c => c | none => .skip)
def qaf_a : StSh := ⟨.normal, [0], (.cons (.ptr 0 0 0 0) .nil), (.cons (.bcells 0 false 1 (.cons .nilP (.cons .bool .nil))) .nil)⟩
def qbd_an : Ann := {}
def qbd_c : Code := (match Try.f82.body with | some c => c | none => .skip)
def qbd_a : StSh := ⟨.normal, [0], (.cons (.ptr 0 0 0 0) .nil), (.cons (.bcells 0 false 1 (.cons .nilP (.cons .bool .nil))) .nil)⟩
def qaz_an : Ann := {}
def qaz_c : Code := (match Try.f83.body with | some c => c | none => .skip)
def qaz_a : StSh := ⟨.normal, [0], (.cons (.ptr 0 0 0 0) .nil), (.cons (.bcells 0 false 1 (.cons .nilP (.cons .bool .nil))) .nil)⟩
def qo_an : Ann := {}
def qo_c : Code := (match Try.f74.body with | some c => c | none => .skip)
def qo_a : StSh := ⟨.normal, [0, 1], (.cons .nilP (.cons (.int .i64) .nil)), .nil⟩
def qo_res : List StSh := []
def qo_tbl (n : Nat) : FuncId → List Entry := fun f => bif Nat.beq f 75 then [qz_E n] else []
def qo_loops (n : Nat) : Nat → Option LEntry := fun f => none
theorem qo_run (n : Nat) (n_1 : Int) : funDS (real _) tab (qo_tbl n) (qo_loops n) qo_an Try.f74 0 qo_a qo_res n_1 some = qo n n_1 := by kernel_rfl
def qo_E (n : Nat) : Entry := ⟨qo_a, qo_res, fun d => qo n d⟩
theorem qo_ok (n : Nat) : EOK Try.prog 74 (qo_E n) :=
 EOK.ofS zc zb ze (tbl := qo_tbl n) (loops := qo_loops n) (an := qo_an) (old := []) (n := n) (c := qo_c) (fn := Try.f74) (TblOK.cons (AllE.cons (qz_ok n) AllE.nil) TblOK.nil) (by kernel_rfl) (by kernel_rfl) (by kernel_rfl) (by kernel_rfl) (fun d => by kernel_rfl) LT.nil (fun a => qo_run n a)
def qaz_res : List StSh := []
def qaz_tbl (n : Nat) : FuncId → List Entry := fun f => bif Nat.beq f 74 then [qo_E n] else []
def qaz_loops (n : Nat) : Nat → Option LEntry := fun f => none
theorem qaz_run (n : Nat) (m0 : Bool) : funDS (real _) tab (qaz_tbl n) (qaz_loops n) qaz_an Try.f83 1 qaz_a qaz_res m0 some = qaz n m0 := by kernel_rfl
def qaz_E (n : Nat) : Entry := ⟨qaz_a, qaz_res, fun d => qaz n d⟩
theorem qaz_ok (n : Nat) : EOK Try.prog 83 (qaz_E n) :=
 EOK.ofS zc zb ze (tbl := qaz_tbl n) (loops := qaz_loops n) (an := qaz_an) (old := [some true]) (n := n) (c := qaz_c) (fn := Try.f83) (TblOK.cons (AllE.cons (qo_ok n) AllE.nil) TblOK.nil) (by kernel_rfl) (by kernel_rfl) (by kernel_rfl) (by kernel_rfl) (fun d => by kernel_rfl) LT.nil (fun a => qaz_run n a)
def qbd_res : List StSh := []
def qbd_tbl (n : Nat) : FuncId → List Entry := fun f => bif Nat.beq f 83 then [qaz_E n] else []
def qbd_loops (n : Nat) : Nat → Option LEntry := fun f => none
theorem qbd_run (n : Nat) (m0 : Bool) : funDS (real _) tab (qbd_tbl n) (qbd_loops n) qbd_an Try.f82 1 qbd_a qbd_res m0 some = qbd n m0 := by kernel_rfl
def qbd_E (n : Nat) : Entry := ⟨qbd_a, qbd_res, fun d => qbd n d⟩
theorem qbd_ok (n : Nat) : EOK Try.prog 82 (qbd_E n) :=
 EOK.ofS zc zb ze (tbl := qbd_tbl n) (loops := qbd_loops n) (an := qbd_an) (old := [some true]) (n := n) (c := qbd_c) (fn := Try.f82) (TblOK.cons (AllE.cons (qaz_ok n) AllE.nil) TblOK.nil) (by kernel_rfl) (by kernel_rfl) (by kernel_rfl) (by kernel_rfl) (fun d => by kernel_rfl) LT.nil (fun a => qbd_run n a)
def qaf_res : List StSh := []
def qaf_tbl (n : Nat) : FuncId → List Entry := fun f => bif Nat.beq f 82 then [qbd_E n] else []
def qaf_loops (n : Nat) : Nat → Option LEntry := fun f => none
theorem qaf_run (n : Nat) (m0 : Bool) : funDS (real _) tab (qaf_tbl n) (qaf_loops n) qaf_an Try.f54 1 qaf_a qaf_res m0 some = qaf n m0 := by kernel_rfl
def qaf_E (n : Nat) : Entry := ⟨qaf_a, qaf_res, fun d => qaf n d⟩
theorem qaf_ok (n : Nat) : EOK Try.prog 54 (qaf_E n) :=
 EOK.ofS zc zb ze (tbl := qaf_tbl n) (loops := qaf_loops n) (an := qaf_an) (old := [some true]) (n := n) (c := qaf_c) (fn := Try.f54) (TblOK.cons (AllE.cons (qbd_ok n) AllE.nil) TblOK.nil) (by kernel_rfl) (by kernel_rfl) (by kernel_rfl) (by kernel_rfl) (fun d => by kernel_rfl) LT.nil (fun a => qaf_run n a)
def qs_an : Ann := {}
def qs_c : Code := (match Try.f54.body with | some c => c | none => .skip)
def qs_a : StSh := ⟨.normal, [0], (.cons (.ptr 0 0 0 0) .nil), (.cons (.bcells 0 false 1 (.cons (.ptr 1 0 0 0) (.cons .bool .nil))) (.cons (.bcells 0 false 1 (.cons (.sl false false (.int .u8)) (.cons .bool .nil))) .nil))⟩
def qag_an : Ann := {}
def qag_c : Code := (match Try.f82.body with | some c => c | none => .skip)
def qag_a : StSh := ⟨.normal, [0], (.cons (.ptr 0 0 0 0) .nil), (.cons (.bcells 0 false 1 (.cons (.ptr 1 0 0 0) (.cons .bool .nil))) (.cons (.bcells 0 false 1 (.cons (.sl false false (.int .u8)) (.cons .bool .nil))) .nil))⟩
def qao_an : Ann := {}
def qao_c : Code := (match Try.f83.body with | some c => c | none => .skip)
def qao_a : StSh := ⟨.normal, [0], (.cons (.ptr 0 0 0 0) .nil), (.cons (.bcells 0 false 1 (.cons (.ptr 1 0 0 0) (.cons .bool .nil))) (.cons (.bcells 0 false 1 (.cons (.sl false false (.int .u8)) (.cons .bool .nil))) .nil))⟩
def qao_res : List StSh := [⟨.ret, [0], (.cons (.int .u64) .nil), (.cons (.bcells 0 false 1 (.cons (.ptr 1 0 0 0) (.cons .bool .nil))) (.cons (.bcells 0 false 1 (.cons (.sl false false (.int .u8)) (.cons .bool .nil))) .nil))⟩]
def qao_tbl (n : Nat) : FuncId → List Entry := fun f => bif Nat.beq f 74 then [qai_E n] else []
def qao_loops (n : Nat) : Nat → Option LEntry := fun f => none
theorem qao_run (n : Nat) (m0 : Bool) (m1 : DA) (m1_1 : Bool) : funDS (real _) tab (qao_tbl n) (qao_loops n) qao_an Try.f83 2 qao_a qao_res (m0, (m1, m1_1)) some = qao n m0 m1 m1_1 := by kernel_rfl
def qao_E (n : Nat) : Entry := ⟨qao_a, qao_res, fun d => qao n d.1 d.2.1 d.2.2⟩
theorem qao_ok (n : Nat) : EOK Try.prog 83 (qao_E n) :=
 EOK.ofS zc zb ze (tbl := qao_tbl n) (loops := qao_loops n) (an := qao_an) (old := [some true, some true]) (n := n) (c := qao_c) (fn := Try.f83) (TblOK.cons (AllE.cons (qai_ok n) AllE.nil) TblOK.nil) (by kernel_rfl) (by kernel_rfl) (by kernel_rfl) (by kernel_rfl) (fun d => by kernel_rfl) LT.nil (fun a => qao_run n a.1 a.2.1 a.2.2)
def qag_res : List StSh := [⟨.ret, [0], (.cons (.int .i64) .nil), (.cons (.bcells 0 false 1 (.cons (.ptr 1 0 0 0) (.cons .bool .nil))) (.cons (.bcells 0 false 1 (.cons (.sl false false (.int .u8)) (.cons .bool .nil))) .nil))⟩]
def qag_tbl (n : Nat) : FuncId → List Entry := fun f => bif Nat.beq f 83 then [qao_E n] else []
def qag_loops (n : Nat) : Nat → Option LEntry := fun f => none
theorem qag_run (n : Nat) (m0 : Bool) (m1 : DA) (m1_1 : Bool) : funDS (real _) tab (qag_tbl n) (qag_loops n) qag_an Try.f82 2 qag_a qag_res (m0, (m1, m1_1)) some = qag n m0 m1 m1_1 := by kernel_rfl
def qag_E (n : Nat) : Entry := ⟨qag_a, qag_res, fun d => qag n d.1 d.2.1 d.2.2⟩
theorem qag_ok (n : Nat) : EOK Try.prog 82 (qag_E n) :=
 EOK.ofS zc zb ze (tbl := qag_tbl n) (loops := qag_loops n) (an := qag_an) (old := [some true, some true]) (n := n) (c := qag_c) (fn := Try.f82) (TblOK.cons (AllE.cons (qao_ok n) AllE.nil) TblOK.nil) (by kernel_rfl) (by kernel_rfl) (by kernel_rfl) (by kernel_rfl) (fun d => by kernel_rfl) LT.nil (fun a => qag_run n a.1 a.2.1 a.2.2)
def qat_an : Ann := { live := [(0, [0, 1, 4])] }
def qat_c : Code := (match Try.f84.body with | some c => c | none => .skip)
def qat_l0 : Code := (match assoc 0 (loopsIn qat_c 0) with | some c => c | none => .skip)
def qat_a : StSh := ⟨.normal, [0, 1], (.cons (.ptr 0 0 0 0) (.cons (.fn 85 .nil (.cons (.ptr 1 0 0 0) (.cons (.ptr 2 0 0 0) .nil))) .nil)), (.cons (.bcells 0 false 1 (.cons (.ptr 3 0 0 0) (.cons .bool .nil))) (.cons (.bcells 0 false 1 (.cons (.ptr 0 0 0 0) .nil)) (.cons (.bcells 0 false 1 (.cons .nilS (.cons .nilS (.cons .nilS (.cons (.int .i64) (.cons (.int .i64) (.cons (.int .i64) (.cons (.int .u64) .nil)))))))) (.cons (.bcells 0 false 1 (.cons (.sl false false (.int .u8)) (.cons .bool .nil))) .nil))))⟩
def qx_an : Ann := { boxed := [(3, 3), (3, 4)] }
def qx_c : Code := (match Try.f85.body with | some c => c | none => .skip)
def qx_a : StSh := ⟨.normal, [0, 1], (.cons (.ptr 0 0 0 0) (.cons (.ptr 1 0 0 0) .nil)), (.cons (.bcells 0 false 1 (.cons (.ptr 2 0 0 0) .nil)) (.cons (.bcells 0 false 1 (.cons .nilS (.cons .nilS (.cons .nilS (.cons (.int .i64) (.cons (.int .i64) (.cons (.int .i64) (.cons (.int .u64) .nil)))))))) (.cons (.bcells 0 false 1 (.cons (.ptr 3 0 0 0) (.cons .bool .nil))) (.cons (.bcells 0 false 1 (.cons (.sl false false (.int .u8)) (.cons .bool .nil))) .nil))))⟩
def qx_res : List StSh := [⟨.ret, [0], (.cons (.tup .nil) .nil), (.cons (.bcells 0 false 1 (.cons (.ptr 2 0 0 0) .nil)) (.cons (.bcells 0 false 1 (.cons .nilS (.cons .nilS (.cons (.msw 4 0) (.cons (.int .i64) (.cons (.int .i64) (.cons (.int .i64) (.cons (.int .u64) .nil)))))))) (.cons (.bcells 0 false 1 (.cons (.ptr 3 0 0 0) (.cons .bool .nil))) (.cons (.bcells 0 false 1 (.cons (.sl false false (.int .u8)) (.cons .bool .nil))) (.cons (.bts 0 false false true yC) .nil)))))⟩]
def qx_tbl (n : Nat) : FuncId → List Entry := fun f => bif Nat.beq f 82 then [qag_E n] else bif Nat.beq f 83 then [qao_E n] else []
def qx_loops (n : Nat) : Nat → Option LEntry := fun f => none
theorem qx_run (n : Nat) (m1 : Int) (m1_1 : Int) (m1_2 : Int) (m1_3 : Int) (m2 : Bool) (m3 : DA) (m3_1 : Bool) : funDS (real _) tab (qx_tbl n) (qx_loops n) qx_an Try.f85 4 qx_a qx_res ((m1, (m1_1, (m1_2, m1_3))), (m2, (m3, m3_1))) some = qx n m1 m1_1 m1_2 m1_3 m2 m3 m3_1 := by kernel_rfl
def qx_E (n : Nat) : Entry := ⟨qx_a, qx_res, fun d => qx n d.1.1 d.1.2.1 d.1.2.2.1 d.1.2.2.2 d.2.1 d.2.2.1 d.2.2.2⟩
theorem qx_ok (n : Nat) : EOK Try.prog 85 (qx_E n) :=
 EOK.ofS zc zb ze (tbl := qx_tbl n) (loops := qx_loops n) (an := qx_an) (old := [some true, some true, some true, some true]) (n := n) (c := qx_c) (fn := Try.f85) (TblOK.cons (AllE.cons (qag_ok n) AllE.nil) (TblOK.cons (AllE.cons (qao_ok n) AllE.nil) TblOK.nil)) (by kernel_rfl) (by kernel_rfl) (by kernel_rfl) (by kernel_rfl) (fun d => by kernel_rfl) LT.nil (fun a => qx_run n a.1.1 a.1.2.1 a.1.2.2.1 a.1.2.2.2 a.2.1 a.2.2.1 a.2.2.2)
def qc_an : Ann := { boxed := [(3, 3), (3, 4)] }
def qc_c : Code := (match Try.f85.body with | some c => c | none => .skip)
def qc_a : StSh := ⟨.normal, [0, 1], (.cons (.ptr 0 0 0 0) (.cons (.ptr 1 0 0 0) .nil)), (.cons (.bcells 0 false 1 (.cons (.ptr 2 0 0 0) .nil)) (.cons (.bcells 0 false 1 (.cons .nilS (.cons .nilS (.cons (.msw 3 0) (.cons (.int .i64) (.cons (.int .i64) (.cons (.int .i64) (.cons (.int .u64) .nil)))))))) (.cons (.bcells 0 false 1 (.cons (.ptr 4 0 0 0) (.cons .bool .nil))) (.cons (.bts 0 false false true yC) (.cons (.bcells 0 false 1 (.cons (.sl false false (.int .u8)) (.cons .bool .nil))) .nil)))))⟩
def qc_res : List StSh := [⟨.ret, [0], (.cons (.tup .nil) .nil), (.cons (.bcells 0 false 1 (.cons (.ptr 2 0 0 0) .nil)) (.cons (.bcells 0 false 1 (.cons .nilS (.cons .nilS (.cons (.msw 3 0) (.cons (.int .i64) (.cons (.int .i64) (.cons (.int .i64) (.cons (.int .u64) .nil)))))))) (.cons (.bcells 0 false 1 (.cons (.ptr 4 0 0 0) (.cons .bool .nil))) (.cons (.bts 0 false false true yC) (.cons (.bcells 0 false 1 (.cons (.sl false false (.int .u8)) (.cons .bool .nil))) .nil)))))⟩]
def qc_tbl (n : Nat) : FuncId → List Entry := fun f => bif Nat.beq f 82 then [qag_E n] else bif Nat.beq f 83 then [qao_E n] else []
def qc_loops (n : Nat) : Nat → Option LEntry := fun f => none
theorem qc_run (n : Nat) (m1 : Int) (m1_1 : Int) (m1_2 : Int) (m1_3 : Int) (m2 : Bool) (m3 : DB) (m4 : DA) (m4_1 : Bool) : funDS (real _) tab (qc_tbl n) (qc_loops n) qc_an Try.f85 5 qc_a qc_res ((m1, (m1_1, (m1_2, m1_3))), (m2, (m3, (m4, m4_1)))) some = qc n m1 m1_1 m1_2 m1_3 m2 m3 m4 m4_1 := by kernel_rfl
def qc_E (n : Nat) : Entry := ⟨qc_a, qc_res, fun d => qc n d.1.1 d.1.2.1 d.1.2.2.1 d.1.2.2.2 d.2.1 d.2.2.1 d.2.2.2.1 d.2.2.2.2⟩
theorem qc_ok (n : Nat) : EOK Try.prog 85 (qc_E n) :=
 EOK.ofS zc zb ze (tbl := qc_tbl n) (loops := qc_loops n) (an := qc_an) (old := [some true, some true, some true, some false, some true]) (n := n) (c := qc_c) (fn := Try.f85) (TblOK.cons (AllE.cons (qag_ok n) AllE.nil) (TblOK.cons (AllE.cons (qao_ok n) AllE.nil) TblOK.nil)) (by kernel_rfl) (by kernel_rfl) (by kernel_rfl) (by kernel_rfl) (fun d => by kernel_rfl) LT.nil (fun a => qc_run n a.1.1 a.1.2.1 a.1.2.2.1 a.1.2.2.2 a.2.1 a.2.2.1 a.2.2.2.1 a.2.2.2.2)
def qat_h0 : List StSh := [⟨.normal, [0, 1, 4], (.cons (.ptr 0 0 0 0) (.cons (.fn 85 .nil (.cons (.ptr 1 0 0 0) (.cons (.ptr 2 0 0 0) .nil))) (.cons (.int .i64) .nil))), (.cons (.bcells 0 false 1 (.cons (.ptr 3 0 0 0) (.cons .bool .nil))) (.cons (.bcells 0 false 1 (.cons (.ptr 0 0 0 0) .nil)) (.cons (.bcells 0 false 1 (.cons .nilS (.cons .nilS (.cons .nilS (.cons (.int .i64) (.cons (.int .i64) (.cons (.int .i64) (.cons (.int .u64) .nil)))))))) (.cons (.bcells 0 false 1 (.cons (.sl false false (.int .u8)) (.cons .bool .nil))) .nil))))⟩, ⟨.normal, [0, 1, 4], (.cons (.ptr 0 0 0 0) (.cons (.fn 85 .nil (.cons (.ptr 1 0 0 0) (.cons (.ptr 2 0 0 0) .nil))) (.cons (.int .i64) .nil))), (.cons (.bcells 0 false 1 (.cons (.ptr 3 0 0 0) (.cons .bool .nil))) (.cons (.bcells 0 false 1 (.cons (.ptr 0 0 0 0) .nil)) (.cons (.bcells 0 false 1 (.cons .nilS (.cons .nilS (.cons (.msw 4 0) (.cons (.int .i64) (.cons (.int .i64) (.cons (.int .i64) (.cons (.int .u64) .nil)))))))) (.cons (.bcells 0 false 1 (.cons (.sl false false (.int .u8)) (.cons .bool .nil))) (.cons (.bts 0 false false true yC) .nil)))))⟩]
def qat_o0 : List StSh := [⟨.exit 0, [], .nil, (.cons (.bcells 0 false 1 (.cons (.ptr 3 0 0 0) (.cons .bool .nil))) (.cons (.bcells 0 false 1 (.cons (.ptr 0 0 0 0) .nil)) (.cons (.bcells 0 false 1 (.cons .nilS (.cons .nilS (.cons .nilS (.cons (.int .i64) (.cons (.int .i64) (.cons (.int .i64) (.cons (.int .u64) .nil)))))))) (.cons (.bcells 0 false 1 (.cons (.sl false false (.int .u8)) (.cons .bool .nil))) .nil))))⟩, ⟨.exit 0, [], .nil, (.cons (.bcells 0 false 1 (.cons (.ptr 3 0 0 0) (.cons .bool .nil))) (.cons (.bcells 0 false 1 (.cons (.ptr 0 0 0 0) .nil)) (.cons (.bcells 0 false 1 (.cons .nilS (.cons .nilS (.cons (.msw 4 0) (.cons (.int .i64) (.cons (.int .i64) (.cons (.int .i64) (.cons (.int .u64) .nil)))))))) (.cons (.bcells 0 false 1 (.cons (.sl false false (.int .u8)) (.cons .bool .nil))) (.cons (.bts 0 false false true yC) .nil)))))⟩]
def qat_L0 (n : Nat) : LEntry := ⟨qat_h0, qat_o0, qat_W0 n⟩
def qat_res : List StSh := [⟨.ret, [0], (.cons (.tup .nil) .nil), (.cons (.bcells 0 false 1 (.cons (.ptr 3 0 0 0) (.cons .bool .nil))) (.cons (.bcells 0 false 1 (.cons (.ptr 0 0 0 0) .nil)) (.cons (.bcells 0 false 1 (.cons .nilS (.cons .nilS (.cons .nilS (.cons (.int .i64) (.cons (.int .i64) (.cons (.int .i64) (.cons (.int .u64) .nil)))))))) (.cons (.bcells 0 false 1 (.cons (.sl false false (.int .u8)) (.cons .bool .nil))) .nil))))⟩, ⟨.ret, [0], (.cons (.tup .nil) .nil), (.cons (.bcells 0 false 1 (.cons (.ptr 3 0 0 0) (.cons .bool .nil))) (.cons (.bcells 0 false 1 (.cons (.ptr 0 0 0 0) .nil)) (.cons (.bcells 0 false 1 (.cons .nilS (.cons .nilS (.cons (.msw 4 0) (.cons (.int .i64) (.cons (.int .i64) (.cons (.int .i64) (.cons (.int .u64) .nil)))))))) (.cons (.bcells 0 false 1 (.cons (.sl false false (.int .u8)) (.cons .bool .nil))) (.cons (.bts 0 false false true yC) .nil)))))⟩]
def qat_tbl (n : Nat) : FuncId → List Entry := fun f => bif Nat.beq f 82 then [qag_E n] else bif Nat.beq f 55 then [qbg_E n] else bif Nat.beq f 85 then [qx_E n, qc_E n] else []
def qat_loops (n : Nat) : Nat → Option LEntry := fun f => bif Nat.beq f 0 then some (qat_L0 n) else none
theorem qat_r0q0 (n : Nat) (n_4 : Int) (m0 : Bool) (m2 : Int) (m2_1 : Int) (m2_2 : Int) (m2_3 : Int) (m3 : DA) (m3_1 : Bool) : roundK (real _) tab (qat_tbl n) (qat_loops n) qat_an [some true, some true, some true, some true] qat_l0 0 [0, 1, 4] qat_h0 qat_o0 (Sum.inl (n_4, (m0, ((m2, (m2_1, (m2_2, m2_3))), (m3, m3_1))))) some = qat_B0q0 n n_4 m0 m2 m2_1 m2_2 m2_3 m3 m3_1 := by kernel_rfl
theorem qat_r0q1 (n : Nat) (n_4 : Int) (m0 : Bool) (m2 : Int) (m2_1 : Int) (m2_2 : Int) (m2_3 : Int) (m3 : DA) (m3_1 : Bool) (m4 : DB) : roundK (real _) tab (qat_tbl n) (qat_loops n) qat_an [some true, some true, some true, some true] qat_l0 0 [0, 1, 4] qat_h0 qat_o0 (Sum.inr (n_4, (m0, ((m2, (m2_1, (m2_2, m2_3))), ((m3, m3_1), m4))))) some = qat_B0q1 n n_4 m0 m2 m2_1 m2_2 m2_3 m3 m3_1 m4 := by kernel_rfl
theorem qat_f0 (n : Nat) : LoopFact tab (qat_tbl n) (qat_loops n) qat_an [some true, some true, some true, some true] n 0 qat_l0 (qat_L0 n) := ⟨[0, 1, 4], (qat_M0 n), by kernel_rfl, by kernel_rfl, fun s => rfl, fun s => match s with | (Sum.inl a0) => qat_r0q0 n a0.1 a0.2.1 a0.2.2.1.1 a0.2.2.1.2.1 a0.2.2.1.2.2.1 a0.2.2.1.2.2.2 a0.2.2.2.1 a0.2.2.2.2 | (Sum.inr a1) => qat_r0q1 n a1.1 a1.2.1 a1.2.2.1.1 a1.2.2.1.2.1 a1.2.2.1.2.2.1 a1.2.2.1.2.2.2 a1.2.2.2.1.1 a1.2.2.2.1.2 a1.2.2.2.2⟩
theorem qat_run (n : Nat) (m0 : Bool) (m2 : Int) (m2_1 : Int) (m2_2 : Int) (m2_3 : Int) (m3 : DA) (m3_1 : Bool) : funDS (real _) tab (qat_tbl n) (qat_loops n) qat_an Try.f84 4 qat_a qat_res (m0, ((m2, (m2_1, (m2_2, m2_3))), (m3, m3_1))) some = qat n m0 m2 m2_1 m2_2 m2_3 m3 m3_1 := by kernel_rfl
def qat_E (n : Nat) : Entry := ⟨qat_a, qat_res, fun d => qat n d.1 d.2.1.1 d.2.1.2.1 d.2.1.2.2.1 d.2.1.2.2.2 d.2.2.1 d.2.2.2⟩
theorem qat_ok (n : Nat) : EOK Try.prog 84 (qat_E n) :=
 EOK.ofS zc zb ze (tbl := qat_tbl n) (loops := qat_loops n) (an := qat_an) (old := [some true, some true, some true, some true]) (n := n) (c := qat_c) (fn := Try.f84) (TblOK.cons (AllE.cons (qag_ok n) AllE.nil) (TblOK.cons (AllE.cons (qbg_ok n) AllE.nil) (TblOK.cons (AllE.cons (qx_ok n) (AllE.cons (qc_ok n) AllE.nil)) TblOK.nil))) (by kernel_rfl) (by kernel_rfl) (by kernel_rfl) (by kernel_rfl) (fun d => by kernel_rfl) (LT.cons (by kernel_rfl) (qat_f0 n) LT.nil) (fun a => qat_run n a.1 a.2.1.1 a.2.1.2.1 a.2.1.2.2.1 a.2.1.2.2.2 a.2.2.1 a.2.2.2)
def qab_an : Ann := { live := [(0, [0, 1, 4])] }
def qab_c : Code := (match Try.f84.body with | some c => c | none => .skip)
def qab_l0 : Code := (match assoc 0 (loopsIn qab_c 0) with | some c => c | none => .skip)
def qab_a : StSh := ⟨.normal, [0, 1], (.cons (.ptr 0 0 0 0) (.cons (.fn 86 .nil (.cons (.ptr 1 0 0 0) (.cons (.ptr 2 0 0 0) .nil))) .nil)), (.cons (.bcells 0 false 1 (.cons (.ptr 3 0 0 0) (.cons .bool .nil))) (.cons (.bcells 0 false 1 (.cons .nilS (.cons .nilS (.cons .nilS (.cons (.int .i64) (.cons (.int .i64) (.cons (.int .i64) (.cons (.int .u64) .nil)))))))) (.cons (.bcells 0 false 1 (.cons (.ptr 0 0 0 0) .nil)) (.cons (.bcells 0 false 1 (.cons (.sl false false (.int .u8)) (.cons .bool .nil))) .nil))))⟩
def qu_an : Ann := { boxed := [(0, 11), (0, 12)] }
def qu_c : Code := (match Try.f86.body with | some c => c | none => .skip)
def qu_a : StSh := ⟨.normal, [0, 1], (.cons (.ptr 0 0 0 0) (.cons (.ptr 1 0 0 0) .nil)), (.cons (.bcells 0 false 1 (.cons .nilS (.cons .nilS (.cons .nilS (.cons (.int .i64) (.cons (.int .i64) (.cons (.int .i64) (.cons (.int .u64) .nil)))))))) (.cons (.bcells 0 false 1 (.cons (.ptr 2 0 0 0) .nil)) (.cons (.bcells 0 false 1 (.cons (.ptr 3 0 0 0) (.cons .bool .nil))) (.cons (.bcells 0 false 1 (.cons (.sl false false (.int .u8)) (.cons .bool .nil))) .nil))))⟩
def qbb_an : Ann := { live := [(0, [0, 3, 4])], boxed := [(1, 0), (5, 4)] }
def qbb_c : Code := (match Try.f87.body with | some c => c | none => .skip)
def qbb_l0 : Code := (match assoc 0 (loopsIn qbb_c 0) with | some c => c | none => .skip)
def qbb_a : StSh := ⟨.normal, [0], (.cons (.ptr 0 0 0 0) .nil), (.cons (.bcells 0 false 1 (.cons (.ptr 1 0 0 0) (.cons .bool .nil))) (.cons (.bcells 0 false 1 (.cons (.sl false false (.int .u8)) (.cons .bool .nil))) .nil))⟩
def qbb_h0 : List StSh := [⟨.normal, [0, 3, 4], (.cons (.ptr 0 0 0 0) (.cons (.msw 2 0) (.cons (.int .i64) .nil))), (.cons (.bcells 0 false 1 (.cons (.ptr 1 0 0 0) (.cons .bool .nil))) (.cons (.bcells 0 false 1 (.cons (.sl false false (.int .u8)) (.cons .bool .nil))) (.cons (.bts 0 false false false (.int .u64)) .nil)))⟩]
def qbb_o0 : List StSh := [⟨.exit 0, [3], (.cons (.msw 2 0) .nil), (.cons (.bcells 0 false 1 (.cons (.ptr 1 0 0 0) (.cons .bool .nil))) (.cons (.bcells 0 false 1 (.cons (.sl false false (.int .u8)) (.cons .bool .nil))) (.cons (.bts 0 false false false (.int .u64)) .nil)))⟩]
def qbb_L0 (n : Nat) : LEntry := ⟨qbb_h0, qbb_o0, qbb_W0 n⟩
def qbb_res : List StSh := [⟨.ret, [0], (.cons (.sl false false (.int .u64)) .nil), (.cons (.bcells 0 false 1 (.cons (.ptr 1 0 0 0) (.cons .bool .nil))) (.cons (.bcells 0 false 1 (.cons (.sl false false (.int .u8)) (.cons .bool .nil))) .nil))⟩]
def qbb_tbl (n : Nat) : FuncId → List Entry := fun f => bif Nat.beq f 82 then [qag_E n] else bif Nat.beq f 55 then [qbg_E n] else bif Nat.beq f 83 then [qao_E n] else []
def qbb_loops (n : Nat) : Nat → Option LEntry := fun f => bif Nat.beq f 0 then some (qbb_L0 n) else none
theorem qbb_r0 (n : Nat) (n_4 : Int) (m0 : Bool) (m1 : DA) (m1_1 : Bool) (m2 : DA) : roundK (real _) tab (qbb_tbl n) (qbb_loops n) qbb_an [some true, some true] qbb_l0 0 [0, 3, 4] qbb_h0 qbb_o0 (n_4, (m0, ((m1, m1_1), m2))) some = qbb_B0 n n_4 m0 m1 m1_1 m2 := by kernel_rfl
theorem qbb_f0 (n : Nat) : LoopFact tab (qbb_tbl n) (qbb_loops n) qbb_an [some true, some true] n 0 qbb_l0 (qbb_L0 n) := ⟨[0, 3, 4], (fun s => qbb_B0 n s.1 s.2.1 s.2.2.1.1 s.2.2.1.2 s.2.2.2), by kernel_rfl, by kernel_rfl, fun s => rfl, fun s => qbb_r0 n s.1 s.2.1 s.2.2.1.1 s.2.2.1.2 s.2.2.2⟩
theorem qbb_run (n : Nat) (m0 : Bool) (m1 : DA) (m1_1 : Bool) : funDS (real _) tab (qbb_tbl n) (qbb_loops n) qbb_an Try.f87 2 qbb_a qbb_res (m0, (m1, m1_1)) some = qbb n m0 m1 m1_1 := by kernel_rfl
def qbb_E (n : Nat) : Entry := ⟨qbb_a, qbb_res, fun d => qbb n d.1 d.2.1 d.2.2⟩
theorem qbb_ok (n : Nat) : EOK Try.prog 87 (qbb_E n) :=
 EOK.ofS zc zb ze (tbl := qbb_tbl n) (loops := qbb_loops n) (an := qbb_an) (old := [some true, some true]) (n := n) (c := qbb_c) (fn := Try.f87) (TblOK.cons (AllE.cons (qag_ok n) AllE.nil) (TblOK.cons (AllE.cons (qbg_ok n) AllE.nil) (TblOK.cons (AllE.cons (qao_ok n) AllE.nil) TblOK.nil))) (by kernel_rfl) (by kernel_rfl) (by kernel_rfl) (by kernel_rfl) (fun d => by kernel_rfl) (LT.cons (by kernel_rfl) (qbb_f0 n) LT.nil) (fun a => qbb_run n a.1 a.2.1 a.2.2)
def qu_res : List StSh := [⟨.ret, [0], (.cons (.tup .nil) .nil), (.cons (.bcells 0 false 1 (.cons (.msw 4 0) (.cons .nilS (.cons .nilS (.cons (.int .i64) (.cons (.int .i64) (.cons (.int .i64) (.cons (.int .u64) .nil)))))))) (.cons (.bcells 0 false 1 (.cons (.ptr 2 0 0 0) .nil)) (.cons (.bcells 0 false 1 (.cons (.ptr 3 0 0 0) (.cons .bool .nil))) (.cons (.bcells 0 false 1 (.cons (.sl false false (.int .u8)) (.cons .bool .nil))) (.cons (.bts 0 false false true yA) .nil)))))⟩]
def qu_tbl (n : Nat) : FuncId → List Entry := fun f => bif Nat.beq f 82 then [qag_E n] else bif Nat.beq f 87 then [qbb_E n] else []
def qu_loops (n : Nat) : Nat → Option LEntry := fun f => none
theorem qu_run (n : Nat) (m0 : Int) (m0_1 : Int) (m0_2 : Int) (m0_3 : Int) (m2 : Bool) (m3 : DA) (m3_1 : Bool) : funDS (real _) tab (qu_tbl n) (qu_loops n) qu_an Try.f86 4 qu_a qu_res ((m0, (m0_1, (m0_2, m0_3))), (m2, (m3, m3_1))) some = qu n m0 m0_1 m0_2 m0_3 m2 m3 m3_1 := by kernel_rfl
def qu_E (n : Nat) : Entry := ⟨qu_a, qu_res, fun d => qu n d.1.1 d.1.2.1 d.1.2.2.1 d.1.2.2.2 d.2.1 d.2.2.1 d.2.2.2⟩
theorem qu_ok (n : Nat) : EOK Try.prog 86 (qu_E n) :=
 EOK.ofS zc zb ze (tbl := qu_tbl n) (loops := qu_loops n) (an := qu_an) (old := [some true, some true, some true, some true]) (n := n) (c := qu_c) (fn := Try.f86) (TblOK.cons (AllE.cons (qag_ok n) AllE.nil) (TblOK.cons (AllE.cons (qbb_ok n) AllE.nil) TblOK.nil)) (by kernel_rfl) (by kernel_rfl) (by kernel_rfl) (by kernel_rfl) (fun d => by kernel_rfl) LT.nil (fun a => qu_run n a.1.1 a.1.2.1 a.1.2.2.1 a.1.2.2.2 a.2.1 a.2.2.1 a.2.2.2)
def qg_an : Ann := { boxed := [(0, 11), (0, 12)] }
def qg_c : Code := (match Try.f86.body with | some c => c | none => .skip)
def qg_a : StSh := ⟨.normal, [0, 1], (.cons (.ptr 0 0 0 0) (.cons (.ptr 1 0 0 0) .nil)), (.cons (.bcells 0 false 1 (.cons (.msw 2 0) (.cons .nilS (.cons .nilS (.cons (.int .i64) (.cons (.int .i64) (.cons (.int .i64) (.cons (.int .u64) .nil)))))))) (.cons (.bcells 0 false 1 (.cons (.ptr 3 0 0 0) .nil)) (.cons (.bts 0 false false true yA) (.cons (.bcells 0 false 1 (.cons (.ptr 4 0 0 0) (.cons .bool .nil))) (.cons (.bcells 0 false 1 (.cons (.sl false false (.int .u8)) (.cons .bool .nil))) .nil)))))⟩
def qg_res : List StSh := [⟨.ret, [0], (.cons (.tup .nil) .nil), (.cons (.bcells 0 false 1 (.cons (.msw 2 0) (.cons .nilS (.cons .nilS (.cons (.int .i64) (.cons (.int .i64) (.cons (.int .i64) (.cons (.int .u64) .nil)))))))) (.cons (.bcells 0 false 1 (.cons (.ptr 3 0 0 0) .nil)) (.cons (.bts 0 false false true yA) (.cons (.bcells 0 false 1 (.cons (.ptr 4 0 0 0) (.cons .bool .nil))) (.cons (.bcells 0 false 1 (.cons (.sl false false (.int .u8)) (.cons .bool .nil))) .nil)))))⟩]
def qg_tbl (n : Nat) : FuncId → List Entry := fun f => bif Nat.beq f 82 then [qag_E n] else bif Nat.beq f 87 then [qbb_E n] else []
def qg_loops (n : Nat) : Nat → Option LEntry := fun f => none
theorem qg_run (n : Nat) (m0 : Int) (m0_1 : Int) (m0_2 : Int) (m0_3 : Int) (m2 : DE) (m3 : Bool) (m4 : DA) (m4_1 : Bool) : funDS (real _) tab (qg_tbl n) (qg_loops n) qg_an Try.f86 5 qg_a qg_res ((m0, (m0_1, (m0_2, m0_3))), (m2, (m3, (m4, m4_1)))) some = qg n m0 m0_1 m0_2 m0_3 m2 m3 m4 m4_1 := by kernel_rfl
def qg_E (n : Nat) : Entry := ⟨qg_a, qg_res, fun d => qg n d.1.1 d.1.2.1 d.1.2.2.1 d.1.2.2.2 d.2.1 d.2.2.1 d.2.2.2.1 d.2.2.2.2⟩
theorem qg_ok (n : Nat) : EOK Try.prog 86 (qg_E n) :=
 EOK.ofS zc zb ze (tbl := qg_tbl n) (loops := qg_loops n) (an := qg_an) (old := [some true, some true, some false, some true, some true]) (n := n) (c := qg_c) (fn := Try.f86) (TblOK.cons (AllE.cons (qag_ok n) AllE.nil) (TblOK.cons (AllE.cons (qbb_ok n) AllE.nil) TblOK.nil)) (by kernel_rfl) (by kernel_rfl) (by kernel_rfl) (by kernel_rfl) (fun d => by kernel_rfl) LT.nil (fun a => qg_run n a.1.1 a.1.2.1 a.1.2.2.1 a.1.2.2.2 a.2.1 a.2.2.1 a.2.2.2.1 a.2.2.2.2)
def qab_h0 : List StSh := [⟨.normal, [0, 1, 4], (.cons (.ptr 0 0 0 0) (.cons (.fn 86 .nil (.cons (.ptr 1 0 0 0) (.cons (.ptr 2 0 0 0) .nil))) (.cons (.int .i64) .nil))), (.cons (.bcells 0 false 1 (.cons (.ptr 3 0 0 0) (.cons .bool .nil))) (.cons (.bcells 0 false 1 (.cons .nilS (.cons .nilS (.cons .nilS (.cons (.int .i64) (.cons (.int .i64) (.cons (.int .i64) (.cons (.int .u64) .nil)))))))) (.cons (.bcells 0 false 1 (.cons (.ptr 0 0 0 0) .nil)) (.cons (.bcells 0 false 1 (.cons (.sl false false (.int .u8)) (.cons .bool .nil))) .nil))))⟩, ⟨.normal, [0, 1, 4], (.cons (.ptr 0 0 0 0) (.cons (.fn 86 .nil (.cons (.ptr 1 0 0 0) (.cons (.ptr 2 0 0 0) .nil))) (.cons (.int .i64) .nil))), (.cons (.bcells 0 false 1 (.cons (.ptr 3 0 0 0) (.cons .bool .nil))) (.cons (.bcells 0 false 1 (.cons (.msw 4 0) (.cons .nilS (.cons .nilS (.cons (.int .i64) (.cons (.int .i64) (.cons (.int .i64) (.cons (.int .u64) .nil)))))))) (.cons (.bcells 0 false 1 (.cons (.ptr 0 0 0 0) .nil)) (.cons (.bcells 0 false 1 (.cons (.sl false false (.int .u8)) (.cons .bool .nil))) (.cons (.bts 0 false false true yA) .nil)))))⟩]
def qab_o0 : List StSh := [⟨.exit 0, [], .nil, (.cons (.bcells 0 false 1 (.cons (.ptr 3 0 0 0) (.cons .bool .nil))) (.cons (.bcells 0 false 1 (.cons .nilS (.cons .nilS (.cons .nilS (.cons (.int .i64) (.cons (.int .i64) (.cons (.int .i64) (.cons (.int .u64) .nil)))))))) (.cons (.bcells 0 false 1 (.cons (.ptr 0 0 0 0) .nil)) (.cons (.bcells 0 false 1 (.cons (.sl false false (.int .u8)) (.cons .bool .nil))) .nil))))⟩, ⟨.exit 0, [], .nil, (.cons (.bcells 0 false 1 (.cons (.ptr 3 0 0 0) (.cons .bool .nil))) (.cons (.bcells 0 false 1 (.cons (.msw 4 0) (.cons .nilS (.cons .nilS (.cons (.int .i64) (.cons (.int .i64) (.cons (.int .i64) (.cons (.int .u64) .nil)))))))) (.cons (.bcells 0 false 1 (.cons (.ptr 0 0 0 0) .nil)) (.cons (.bcells 0 false 1 (.cons (.sl false false (.int .u8)) (.cons .bool .nil))) (.cons (.bts 0 false false true yA) .nil)))))⟩]
def qab_L0 (n : Nat) : LEntry := ⟨qab_h0, qab_o0, qab_W0 n⟩
def qab_res : List StSh := [⟨.ret, [0], (.cons (.tup .nil) .nil), (.cons (.bcells 0 false 1 (.cons (.ptr 3 0 0 0) (.cons .bool .nil))) (.cons (.bcells 0 false 1 (.cons .nilS (.cons .nilS (.cons .nilS (.cons (.int .i64) (.cons (.int .i64) (.cons (.int .i64) (.cons (.int .u64) .nil)))))))) (.cons (.bcells 0 false 1 (.cons (.ptr 0 0 0 0) .nil)) (.cons (.bcells 0 false 1 (.cons (.sl false false (.int .u8)) (.cons .bool .nil))) .nil))))⟩, ⟨.ret, [0], (.cons (.tup .nil) .nil), (.cons (.bcells 0 false 1 (.cons (.ptr 3 0 0 0) (.cons .bool .nil))) (.cons (.bcells 0 false 1 (.cons (.msw 4 0) (.cons .nilS (.cons .nilS (.cons (.int .i64) (.cons (.int .i64) (.cons (.int .i64) (.cons (.int .u64) .nil)))))))) (.cons (.bcells 0 false 1 (.cons (.ptr 0 0 0 0) .nil)) (.cons (.bcells 0 false 1 (.cons (.sl false false (.int .u8)) (.cons .bool .nil))) (.cons (.bts 0 false false true yA) .nil)))))⟩]
def qab_tbl (n : Nat) : FuncId → List Entry := fun f => bif Nat.beq f 82 then [qag_E n] else bif Nat.beq f 55 then [qbg_E n] else bif Nat.beq f 86 then [qu_E n, qg_E n] else []
def qab_loops (n : Nat) : Nat → Option LEntry := fun f => bif Nat.beq f 0 then some (qab_L0 n) else none
theorem qab_r0q0 (n : Nat) (n_4 : Int) (m0 : Bool) (m1 : Int) (m1_1 : Int) (m1_2 : Int) (m1_3 : Int) (m3 : DA) (m3_1 : Bool) : roundK (real _) tab (qab_tbl n) (qab_loops n) qab_an [some true, some true, some true, some true] qab_l0 0 [0, 1, 4] qab_h0 qab_o0 (Sum.inl (n_4, (m0, ((m1, (m1_1, (m1_2, m1_3))), (m3, m3_1))))) some = qab_B0q0 n n_4 m0 m1 m1_1 m1_2 m1_3 m3 m3_1 := by kernel_rfl
theorem qab_r0q1 (n : Nat) (n_4 : Int) (m0 : Bool) (m1 : Int) (m1_1 : Int) (m1_2 : Int) (m1_3 : Int) (m3 : DA) (m3_1 : Bool) (m4 : DE) : roundK (real _) tab (qab_tbl n) (qab_loops n) qab_an [some true, some true, some true, some true] qab_l0 0 [0, 1, 4] qab_h0 qab_o0 (Sum.inr (n_4, (m0, ((m1, (m1_1, (m1_2, m1_3))), ((m3, m3_1), m4))))) some = qab_B0q1 n n_4 m0 m1 m1_1 m1_2 m1_3 m3 m3_1 m4 := by kernel_rfl
theorem qab_f0 (n : Nat) : LoopFact tab (qab_tbl n) (qab_loops n) qab_an [some true, some true, some true, some true] n 0 qab_l0 (qab_L0 n) := ⟨[0, 1, 4], (qab_M0 n), by kernel_rfl, by kernel_rfl, fun s => rfl, fun s => match s with | (Sum.inl a0) => qab_r0q0 n a0.1 a0.2.1 a0.2.2.1.1 a0.2.2.1.2.1 a0.2.2.1.2.2.1 a0.2.2.1.2.2.2 a0.2.2.2.1 a0.2.2.2.2 | (Sum.inr a1) => qab_r0q1 n a1.1 a1.2.1 a1.2.2.1.1 a1.2.2.1.2.1 a1.2.2.1.2.2.1 a1.2.2.1.2.2.2 a1.2.2.2.1.1 a1.2.2.2.1.2 a1.2.2.2.2⟩
theorem qab_run (n : Nat) (m0 : Bool) (m1 : Int) (m1_1 : Int) (m1_2 : Int) (m1_3 : Int) (m3 : DA) (m3_1 : Bool) : funDS (real _) tab (qab_tbl n) (qab_loops n) qab_an Try.f84 4 qab_a qab_res (m0, ((m1, (m1_1, (m1_2, m1_3))), (m3, m3_1))) some = qab n m0 m1 m1_1 m1_2 m1_3 m3 m3_1 := by kernel_rfl
def qab_E (n : Nat) : Entry := ⟨qab_a, qab_res, fun d => qab n d.1 d.2.1.1 d.2.1.2.1 d.2.1.2.2.1 d.2.1.2.2.2 d.2.2.1 d.2.2.2⟩
theorem qab_ok (n : Nat) : EOK Try.prog 84 (qab_E n) :=
 EOK.ofS zc zb ze (tbl := qab_tbl n) (loops := qab_loops n) (an := qab_an) (old := [some true, some true, some true, some true]) (n := n) (c := qab_c) (fn := Try.f84) (TblOK.cons (AllE.cons (qag_ok n) AllE.nil) (TblOK.cons (AllE.cons (qbg_ok n) AllE.nil) (TblOK.cons (AllE.cons (qu_ok n) (AllE.cons (qg_ok n) AllE.nil)) TblOK.nil))) (by kernel_rfl) (by kernel_rfl) (by kernel_rfl) (by kernel_rfl) (fun d => by kernel_rfl) (LT.cons (by kernel_rfl) (qab_f0 n) LT.nil) (fun a => qab_run n a.1 a.2.1.1 a.2.1.2.1 a.2.1.2.2.1 a.2.1.2.2.2 a.2.2.1 a.2.2.2)
def qw_an : Ann := { live := [(0, [0, 1, 4])] }
def qw_c : Code := (match Try.f84.body with | some c => c | none => .skip)
def qw_l0 : Code := (match assoc 0 (loopsIn qw_c 0) with | some c => c | none => .skip)
def qw_a : StSh := ⟨.normal, [0, 1], (.cons (.ptr 0 0 0 0) (.cons (.fn 88 .nil (.cons (.ptr 1 0 0 0) (.cons (.ptr 2 0 0 0) .nil))) .nil)), (.cons (.bcells 0 false 1 (.cons (.ptr 3 0 0 0) (.cons .bool .nil))) (.cons (.bcells 0 false 1 (.cons .nilS (.cons .nilS (.cons .nilS (.cons (.int .i64) (.cons (.int .i64) (.cons (.int .i64) (.cons (.int .u64) .nil)))))))) (.cons (.bcells 0 false 1 (.cons (.ptr 0 0 0 0) .nil)) (.cons (.bcells 0 false 1 (.cons (.sl false false (.int .u8)) (.cons .bool .nil))) .nil))))⟩
def qy_an : Ann := { boxed := [(0, 16), (0, 17)] }
def qy_c : Code := (match Try.f88.body with | some c => c | none => .skip)
def qy_a : StSh := ⟨.normal, [0, 1], (.cons (.ptr 0 0 0 0) (.cons (.ptr 1 0 0 0) .nil)), (.cons (.bcells 0 false 1 (.cons .nilS (.cons .nilS (.cons .nilS (.cons (.int .i64) (.cons (.int .i64) (.cons (.int .i64) (.cons (.int .u64) .nil)))))))) (.cons (.bcells 0 false 1 (.cons (.ptr 2 0 0 0) .nil)) (.cons (.bcells 0 false 1 (.cons (.ptr 3 0 0 0) (.cons .bool .nil))) (.cons (.bcells 0 false 1 (.cons (.sl false false (.int .u8)) (.cons .bool .nil))) .nil))))⟩
def qy_res : List StSh := [⟨.ret, [0], (.cons (.tup .nil) .nil), (.cons (.bcells 0 false 1 (.cons .nilS (.cons (.msw 4 0) (.cons .nilS (.cons (.int .i64) (.cons (.int .i64) (.cons (.int .i64) (.cons (.int .u64) .nil)))))))) (.cons (.bcells 0 false 1 (.cons (.ptr 2 0 0 0) .nil)) (.cons (.bcells 0 false 1 (.cons (.ptr 3 0 0 0) (.cons .bool .nil))) (.cons (.bcells 0 false 1 (.cons (.sl false false (.int .u8)) (.cons .bool .nil))) (.cons (.bts 0 false false true yB) .nil)))))⟩]
def qy_tbl (n : Nat) : FuncId → List Entry := fun f => bif Nat.beq f 82 then [qag_E n] else bif Nat.beq f 87 then [qbb_E n] else bif Nat.beq f 75 then [qax_E n] else []
def qy_loops (n : Nat) : Nat → Option LEntry := fun f => none
theorem qy_run (n : Nat) (m0 : Int) (m0_1 : Int) (m0_2 : Int) (m0_3 : Int) (m2 : Bool) (m3 : DA) (m3_1 : Bool) : funDS (real _) tab (qy_tbl n) (qy_loops n) qy_an Try.f88 4 qy_a qy_res ((m0, (m0_1, (m0_2, m0_3))), (m2, (m3, m3_1))) some = qy n m0 m0_1 m0_2 m0_3 m2 m3 m3_1 := by kernel_rfl
def qy_E (n : Nat) : Entry := ⟨qy_a, qy_res, fun d => qy n d.1.1 d.1.2.1 d.1.2.2.1 d.1.2.2.2 d.2.1 d.2.2.1 d.2.2.2⟩
theorem qy_ok (n : Nat) : EOK Try.prog 88 (qy_E n) :=
 EOK.ofS zc zb ze (tbl := qy_tbl n) (loops := qy_loops n) (an := qy_an) (old := [some true, some true, some true, some true]) (n := n) (c := qy_c) (fn := Try.f88) (TblOK.cons (AllE.cons (qag_ok n) AllE.nil) (TblOK.cons (AllE.cons (qbb_ok n) AllE.nil) (TblOK.cons (AllE.cons (qax_ok n) AllE.nil) TblOK.nil))) (by kernel_rfl) (by kernel_rfl) (by kernel_rfl) (by kernel_rfl) (fun d => by kernel_rfl) LT.nil (fun a => qy_run n a.1.1 a.1.2.1 a.1.2.2.1 a.1.2.2.2 a.2.1 a.2.2.1 a.2.2.2)
def qj_an : Ann := { boxed := [(0, 16), (0, 17)] }
def qj_c : Code := (match Try.f88.body with | some c => c | none => .skip)
def qj_a : StSh := ⟨.normal, [0, 1], (.cons (.ptr 0 0 0 0) (.cons (.ptr 1 0 0 0) .nil)), (.cons (.bcells 0 false 1 (.cons .nilS (.cons (.msw 2 0) (.cons .nilS (.cons (.int .i64) (.cons (.int .i64) (.cons (.int .i64) (.cons (.int .u64) .nil)))))))) (.cons (.bcells 0 false 1 (.cons (.ptr 3 0 0 0) .nil)) (.cons (.bts 0 false false true yB) (.cons (.bcells 0 false 1 (.cons (.ptr 4 0 0 0) (.cons .bool .nil))) (.cons (.bcells 0 false 1 (.cons (.sl false false (.int .u8)) (.cons .bool .nil))) .nil)))))⟩
def qj_res : List StSh := [⟨.ret, [0], (.cons (.tup .nil) .nil), (.cons (.bcells 0 false 1 (.cons .nilS (.cons (.msw 2 0) (.cons .nilS (.cons (.int .i64) (.cons (.int .i64) (.cons (.int .i64) (.cons (.int .u64) .nil)))))))) (.cons (.bcells 0 false 1 (.cons (.ptr 3 0 0 0) .nil)) (.cons (.bts 0 false false true yB) (.cons (.bcells 0 false 1 (.cons (.ptr 4 0 0 0) (.cons .bool .nil))) (.cons (.bcells 0 false 1 (.cons (.sl false false (.int .u8)) (.cons .bool .nil))) .nil)))))⟩]
def qj_tbl (n : Nat) : FuncId → List Entry := fun f => bif Nat.beq f 82 then [qag_E n] else bif Nat.beq f 87 then [qbb_E n] else bif Nat.beq f 75 then [qax_E n] else []
def qj_loops (n : Nat) : Nat → Option LEntry := fun f => none
theorem qj_run (n : Nat) (m0 : Int) (m0_1 : Int) (m0_2 : Int) (m0_3 : Int) (m2 : DE) (m3 : Bool) (m4 : DA) (m4_1 : Bool) : funDS (real _) tab (qj_tbl n) (qj_loops n) qj_an Try.f88 5 qj_a qj_res ((m0, (m0_1, (m0_2, m0_3))), (m2, (m3, (m4, m4_1)))) some = qj n m0 m0_1 m0_2 m0_3 m2 m3 m4 m4_1 := by kernel_rfl
def qj_E (n : Nat) : Entry := ⟨qj_a, qj_res, fun d => qj n d.1.1 d.1.2.1 d.1.2.2.1 d.1.2.2.2 d.2.1 d.2.2.1 d.2.2.2.1 d.2.2.2.2⟩
theorem qj_ok (n : Nat) : EOK Try.prog 88 (qj_E n) :=
 EOK.ofS zc zb ze (tbl := qj_tbl n) (loops := qj_loops n) (an := qj_an) (old := [some true, some true, some false, some true, some true]) (n := n) (c := qj_c) (fn := Try.f88) (TblOK.cons (AllE.cons (qag_ok n) AllE.nil) (TblOK.cons (AllE.cons (qbb_ok n) AllE.nil) (TblOK.cons (AllE.cons (qax_ok n) AllE.nil) TblOK.nil))) (by kernel_rfl) (by kernel_rfl) (by kernel_rfl) (by kernel_rfl) (fun d => by kernel_rfl) LT.nil (fun a => qj_run n a.1.1 a.1.2.1 a.1.2.2.1 a.1.2.2.2 a.2.1 a.2.2.1 a.2.2.2.1 a.2.2.2.2)
def qw_h0 : List StSh := [⟨.normal, [0, 1, 4], (.cons (.ptr 0 0 0 0) (.cons (.fn 88 .nil (.cons (.ptr 1 0 0 0) (.cons (.ptr 2 0 0 0) .nil))) (.cons (.int .i64) .nil))), (.cons (.bcells 0 false 1 (.cons (.ptr 3 0 0 0) (.cons .bool .nil))) (.cons (.bcells 0 false 1 (.cons .nilS (.cons .nilS (.cons .nilS (.cons (.int .i64) (.cons (.int .i64) (.cons (.int .i64) (.cons (.int .u64) .nil)))))))) (.cons (.bcells 0 false 1 (.cons (.ptr 0 0 0 0) .nil)) (.cons (.bcells 0 false 1 (.cons (.sl false false (.int .u8)) (.cons .bool .nil))) .nil))))⟩, ⟨.normal, [0, 1, 4], (.cons (.ptr 0 0 0 0) (.cons (.fn 88 .nil (.cons (.ptr 1 0 0 0) (.cons (.ptr 2 0 0 0) .nil))) (.cons (.int .i64) .nil))), (.cons (.bcells 0 false 1 (.cons (.ptr 3 0 0 0) (.cons .bool .nil))) (.cons (.bcells 0 false 1 (.cons .nilS (.cons (.msw 4 0) (.cons .nilS (.cons (.int .i64) (.cons (.int .i64) (.cons (.int .i64) (.cons (.int .u64) .nil)))))))) (.cons (.bcells 0 false 1 (.cons (.ptr 0 0 0 0) .nil)) (.cons (.bcells 0 false 1 (.cons (.sl false false (.int .u8)) (.cons .bool .nil))) (.cons (.bts 0 false false true yB) .nil)))))⟩]
def qw_o0 : List StSh := [⟨.exit 0, [], .nil, (.cons (.bcells 0 false 1 (.cons (.ptr 3 0 0 0) (.cons .bool .nil))) (.cons (.bcells 0 false 1 (.cons .nilS (.cons .nilS (.cons .nilS (.cons (.int .i64) (.cons (.int .i64) (.cons (.int .i64) (.cons (.int .u64) .nil)))))))) (.cons (.bcells 0 false 1 (.cons (.ptr 0 0 0 0) .nil)) (.cons (.bcells 0 false 1 (.cons (.sl false false (.int .u8)) (.cons .bool .nil))) .nil))))⟩, ⟨.exit 0, [], .nil, (.cons (.bcells 0 false 1 (.cons (.ptr 3 0 0 0) (.cons .bool .nil))) (.cons (.bcells 0 false 1 (.cons .nilS (.cons (.msw 4 0) (.cons .nilS (.cons (.int .i64) (.cons (.int .i64) (.cons (.int .i64) (.cons (.int .u64) .nil)))))))) (.cons (.bcells 0 false 1 (.cons (.ptr 0 0 0 0) .nil)) (.cons (.bcells 0 false 1 (.cons (.sl false false (.int .u8)) (.cons .bool .nil))) (.cons (.bts 0 false false true yB) .nil)))))⟩]
def qw_L0 (n : Nat) : LEntry := ⟨qw_h0, qw_o0, qw_W0 n⟩
def qw_res : List StSh := [⟨.ret, [0], (.cons (.tup .nil) .nil), (.cons (.bcells 0 false 1 (.cons (.ptr 3 0 0 0) (.cons .bool .nil))) (.cons (.bcells 0 false 1 (.cons .nilS (.cons .nilS (.cons .nilS (.cons (.int .i64) (.cons (.int .i64) (.cons (.int .i64) (.cons (.int .u64) .nil)))))))) (.cons (.bcells 0 false 1 (.cons (.ptr 0 0 0 0) .nil)) (.cons (.bcells 0 false 1 (.cons (.sl false false (.int .u8)) (.cons .bool .nil))) .nil))))⟩, ⟨.ret, [0], (.cons (.tup .nil) .nil), (.cons (.bcells 0 false 1 (.cons (.ptr 3 0 0 0) (.cons .bool .nil))) (.cons (.bcells 0 false 1 (.cons .nilS (.cons (.msw 4 0) (.cons .nilS (.cons (.int .i64) (.cons (.int .i64) (.cons (.int .i64) (.cons (.int .u64) .nil)))))))) (.cons (.bcells 0 false 1 (.cons (.ptr 0 0 0 0) .nil)) (.cons (.bcells 0 false 1 (.cons (.sl false false (.int .u8)) (.cons .bool .nil))) (.cons (.bts 0 false false true yB) .nil)))))⟩]
def qw_tbl (n : Nat) : FuncId → List Entry := fun f => bif Nat.beq f 82 then [qag_E n] else bif Nat.beq f 55 then [qbg_E n] else bif Nat.beq f 88 then [qy_E n, qj_E n] else []
def qw_loops (n : Nat) : Nat → Option LEntry := fun f => bif Nat.beq f 0 then some (qw_L0 n) else none
theorem qw_r0q0 (n : Nat) (n_4 : Int) (m0 : Bool) (m1 : Int) (m1_1 : Int) (m1_2 : Int) (m1_3 : Int) (m3 : DA) (m3_1 : Bool) : roundK (real _) tab (qw_tbl n) (qw_loops n) qw_an [some true, some true, some true, some true] qw_l0 0 [0, 1, 4] qw_h0 qw_o0 (Sum.inl (n_4, (m0, ((m1, (m1_1, (m1_2, m1_3))), (m3, m3_1))))) some = qw_B0q0 n n_4 m0 m1 m1_1 m1_2 m1_3 m3 m3_1 := by kernel_rfl
theorem qw_r0q1 (n : Nat) (n_4 : Int) (m0 : Bool) (m1 : Int) (m1_1 : Int) (m1_2 : Int) (m1_3 : Int) (m3 : DA) (m3_1 : Bool) (m4 : DE) : roundK (real _) tab (qw_tbl n) (qw_loops n) qw_an [some true, some true, some true, some true] qw_l0 0 [0, 1, 4] qw_h0 qw_o0 (Sum.inr (n_4, (m0, ((m1, (m1_1, (m1_2, m1_3))), ((m3, m3_1), m4))))) some = qw_B0q1 n n_4 m0 m1 m1_1 m1_2 m1_3 m3 m3_1 m4 := by kernel_rfl
theorem qw_f0 (n : Nat) : LoopFact tab (qw_tbl n) (qw_loops n) qw_an [some true, some true, some true, some true] n 0 qw_l0 (qw_L0 n) := ⟨[0, 1, 4], (qw_M0 n), by kernel_rfl, by kernel_rfl, fun s => rfl, fun s => match s with | (Sum.inl a0) => qw_r0q0 n a0.1 a0.2.1 a0.2.2.1.1 a0.2.2.1.2.1 a0.2.2.1.2.2.1 a0.2.2.1.2.2.2 a0.2.2.2.1 a0.2.2.2.2 | (Sum.inr a1) => qw_r0q1 n a1.1 a1.2.1 a1.2.2.1.1 a1.2.2.1.2.1 a1.2.2.1.2.2.1 a1.2.2.1.2.2.2 a1.2.2.2.1.1 a1.2.2.2.1.2 a1.2.2.2.2⟩
theorem qw_run (n : Nat) (m0 : Bool) (m1 : Int) (m1_1 : Int) (m1_2 : Int) (m1_3 : Int) (m3 : DA) (m3_1 : Bool) : funDS (real _) tab (qw_tbl n) (qw_loops n) qw_an Try.f84 4 qw_a qw_res (m0, ((m1, (m1_1, (m1_2, m1_3))), (m3, m3_1))) some = qw n m0 m1 m1_1 m1_2 m1_3 m3 m3_1 := by kernel_rfl
def qw_E (n : Nat) : Entry := ⟨qw_a, qw_res, fun d => qw n d.1 d.2.1.1 d.2.1.2.1 d.2.1.2.2.1 d.2.1.2.2.2 d.2.2.1 d.2.2.2⟩
theorem qw_ok (n : Nat) : EOK Try.prog 84 (qw_E n) :=
 EOK.ofS zc zb ze (tbl := qw_tbl n) (loops := qw_loops n) (an := qw_an) (old := [some true, some true, some true, some true]) (n := n) (c := qw_c) (fn := Try.f84) (TblOK.cons (AllE.cons (qag_ok n) AllE.nil) (TblOK.cons (AllE.cons (qbg_ok n) AllE.nil) (TblOK.cons (AllE.cons (qy_ok n) (AllE.cons (qj_ok n) AllE.nil)) TblOK.nil))) (by kernel_rfl) (by kernel_rfl) (by kernel_rfl) (by kernel_rfl) (fun d => by kernel_rfl) (LT.cons (by kernel_rfl) (qw_f0 n) LT.nil) (fun a => qw_run n a.1 a.2.1.1 a.2.1.2.1 a.2.1.2.2.1 a.2.1.2.2.2 a.2.2.1 a.2.2.2)
def qt_an : Ann := { live := [(0, [0, 1, 4])] }
def qt_c : Code := (match Try.f84.body with | some c => c | none => .skip)
def qt_l0 : Code := (match assoc 0 (loopsIn qt_c 0) with | some c => c | none => .skip)
def qt_a : StSh := ⟨.normal, [0, 1], (.cons (.ptr 0 0 0 0) (.cons (.fn 88 .nil (.cons (.ptr 1 0 0 0) (.cons (.ptr 2 0 0 0) .nil))) .nil)), (.cons (.bcells 0 false 1 (.cons (.ptr 3 0 0 0) (.cons .bool .nil))) (.cons (.bcells 0 false 1 (.cons (.msw 4 0) (.cons .nilS (.cons .nilS (.cons (.int .i64) (.cons (.int .i64) (.cons (.int .i64) (.cons (.int .u64) .nil)))))))) (.cons (.bcells 0 false 1 (.cons (.ptr 0 0 0 0) .nil)) (.cons (.bcells 0 false 1 (.cons (.sl false false (.int .u8)) (.cons .bool .nil))) (.cons (.bts 0 false false true yA) .nil)))))⟩
def qe_an : Ann := { boxed := [(0, 16), (0, 17)] }
def qe_c : Code := (match Try.f88.body with | some c => c | none => .skip)
def qe_a : StSh := ⟨.normal, [0, 1], (.cons (.ptr 0 0 0 0) (.cons (.ptr 1 0 0 0) .nil)), (.cons (.bcells 0 false 1 (.cons (.msw 2 0) (.cons .nilS (.cons .nilS (.cons (.int .i64) (.cons (.int .i64) (.cons (.int .i64) (.cons (.int .u64) .nil)))))))) (.cons (.bcells 0 false 1 (.cons (.ptr 3 0 0 0) .nil)) (.cons (.bts 0 false false true yA) (.cons (.bcells 0 false 1 (.cons (.ptr 4 0 0 0) (.cons .bool .nil))) (.cons (.bcells 0 false 1 (.cons (.sl false false (.int .u8)) (.cons .bool .nil))) .nil)))))⟩
def qe_res : List StSh := [⟨.ret, [0], (.cons (.tup .nil) .nil), (.cons (.bcells 0 false 1 (.cons (.msw 2 0) (.cons (.msw 5 0) (.cons .nilS (.cons (.int .i64) (.cons (.int .i64) (.cons (.int .i64) (.cons (.int .u64) .nil)))))))) (.cons (.bcells 0 false 1 (.cons (.ptr 3 0 0 0) .nil)) (.cons (.bts 0 false false true yA) (.cons (.bcells 0 false 1 (.cons (.ptr 4 0 0 0) (.cons .bool .nil))) (.cons (.bcells 0 false 1 (.cons (.sl false false (.int .u8)) (.cons .bool .nil))) (.cons (.bts 0 false false true yB) .nil))))))⟩]
def qe_tbl (n : Nat) : FuncId → List Entry := fun f => bif Nat.beq f 82 then [qag_E n] else bif Nat.beq f 87 then [qbb_E n] else bif Nat.beq f 75 then [qax_E n] else []
def qe_loops (n : Nat) : Nat → Option LEntry := fun f => none
theorem qe_run (n : Nat) (m0 : Int) (m0_1 : Int) (m0_2 : Int) (m0_3 : Int) (m2 : DE) (m3 : Bool) (m4 : DA) (m4_1 : Bool) : funDS (real _) tab (qe_tbl n) (qe_loops n) qe_an Try.f88 5 qe_a qe_res ((m0, (m0_1, (m0_2, m0_3))), (m2, (m3, (m4, m4_1)))) some = qe n m0 m0_1 m0_2 m0_3 m2 m3 m4 m4_1 := by kernel_rfl
def qe_E (n : Nat) : Entry := ⟨qe_a, qe_res, fun d => qe n d.1.1 d.1.2.1 d.1.2.2.1 d.1.2.2.2 d.2.1 d.2.2.1 d.2.2.2.1 d.2.2.2.2⟩
theorem qe_ok (n : Nat) : EOK Try.prog 88 (qe_E n) :=
 EOK.ofS zc zb ze (tbl := qe_tbl n) (loops := qe_loops n) (an := qe_an) (old := [some true, some true, some false, some true, some true]) (n := n) (c := qe_c) (fn := Try.f88) (TblOK.cons (AllE.cons (qag_ok n) AllE.nil) (TblOK.cons (AllE.cons (qbb_ok n) AllE.nil) (TblOK.cons (AllE.cons (qax_ok n) AllE.nil) TblOK.nil))) (by kernel_rfl) (by kernel_rfl) (by kernel_rfl) (by kernel_rfl) (fun d => by kernel_rfl) LT.nil (fun a => qe_run n a.1.1 a.1.2.1 a.1.2.2.1 a.1.2.2.2 a.2.1 a.2.2.1 a.2.2.2.1 a.2.2.2.2)
def qh_an : Ann := { boxed := [(0, 16), (0, 17)] }
def qh_c : Code := (match Try.f88.body with | some c => c | none => .skip)
def qh_a : StSh := ⟨.normal, [0, 1], (.cons (.ptr 0 0 0 0) (.cons (.ptr 1 0 0 0) .nil)), (.cons (.bcells 0 false 1 (.cons (.msw 2 0) (.cons (.msw 3 0) (.cons .nilS (.cons (.int .i64) (.cons (.int .i64) (.cons (.int .i64) (.cons (.int .u64) .nil)))))))) (.cons (.bcells 0 false 1 (.cons (.ptr 4 0 0 0) .nil)) (.cons (.bts 0 false false true yA) (.cons (.bts 0 false false true yB) (.cons (.bcells 0 false 1 (.cons (.ptr 5 0 0 0) (.cons .bool .nil))) (.cons (.bcells 0 false 1 (.cons (.sl false false (.int .u8)) (.cons .bool .nil))) .nil))))))⟩
def qh_res : List StSh := [⟨.ret, [0], (.cons (.tup .nil) .nil), (.cons (.bcells 0 false 1 (.cons (.msw 2 0) (.cons (.msw 3 0) (.cons .nilS (.cons (.int .i64) (.cons (.int .i64) (.cons (.int .i64) (.cons (.int .u64) .nil)))))))) (.cons (.bcells 0 false 1 (.cons (.ptr 4 0 0 0) .nil)) (.cons (.bts 0 false false true yA) (.cons (.bts 0 false false true yB) (.cons (.bcells 0 false 1 (.cons (.ptr 5 0 0 0) (.cons .bool .nil))) (.cons (.bcells 0 false 1 (.cons (.sl false false (.int .u8)) (.cons .bool .nil))) .nil))))))⟩]
def qh_tbl (n : Nat) : FuncId → List Entry := fun f => bif Nat.beq f 82 then [qag_E n] else bif Nat.beq f 87 then [qbb_E n] else bif Nat.beq f 75 then [qax_E n] else []
def qh_loops (n : Nat) : Nat → Option LEntry := fun f => none
theorem qh_run (n : Nat) (m0 : Int) (m0_1 : Int) (m0_2 : Int) (m0_3 : Int) (m2 : DE) (m3 : DE) (m4 : Bool) (m5 : DA) (m5_1 : Bool) : funDS (real _) tab (qh_tbl n) (qh_loops n) qh_an Try.f88 6 qh_a qh_res ((m0, (m0_1, (m0_2, m0_3))), (m2, (m3, (m4, (m5, m5_1))))) some = qh n m0 m0_1 m0_2 m0_3 m2 m3 m4 m5 m5_1 := by kernel_rfl
def qh_E (n : Nat) : Entry := ⟨qh_a, qh_res, fun d => qh n d.1.1 d.1.2.1 d.1.2.2.1 d.1.2.2.2 d.2.1 d.2.2.1 d.2.2.2.1 d.2.2.2.2.1 d.2.2.2.2.2⟩
theorem qh_ok (n : Nat) : EOK Try.prog 88 (qh_E n) :=
 EOK.ofS zc zb ze (tbl := qh_tbl n) (loops := qh_loops n) (an := qh_an) (old := [some true, some true, some false, some false, some true, some true]) (n := n) (c := qh_c) (fn := Try.f88) (TblOK.cons (AllE.cons (qag_ok n) AllE.nil) (TblOK.cons (AllE.cons (qbb_ok n) AllE.nil) (TblOK.cons (AllE.cons (qax_ok n) AllE.nil) TblOK.nil))) (by kernel_rfl) (by kernel_rfl) (by kernel_rfl) (by kernel_rfl) (fun d => by kernel_rfl) LT.nil (fun a => qh_run n a.1.1 a.1.2.1 a.1.2.2.1 a.1.2.2.2 a.2.1 a.2.2.1 a.2.2.2.1 a.2.2.2.2.1 a.2.2.2.2.2)
def qt_h0 : List StSh := [⟨.normal, [0, 1, 4], (.cons (.ptr 0 0 0 0) (.cons (.fn 88 .nil (.cons (.ptr 1 0 0 0) (.cons (.ptr 2 0 0 0) .nil))) (.cons (.int .i64) .nil))), (.cons (.bcells 0 false 1 (.cons (.ptr 3 0 0 0) (.cons .bool .nil))) (.cons (.bcells 0 false 1 (.cons (.msw 4 0) (.cons .nilS (.cons .nilS (.cons (.int .i64) (.cons (.int .i64) (.cons (.int .i64) (.cons (.int .u64) .nil)))))))) (.cons (.bcells 0 false 1 (.cons (.ptr 0 0 0 0) .nil)) (.cons (.bcells 0 false 1 (.cons (.sl false false (.int .u8)) (.cons .bool .nil))) (.cons (.bts 0 false false true yA) .nil)))))⟩, ⟨.normal, [0, 1, 4], (.cons (.ptr 0 0 0 0) (.cons (.fn 88 .nil (.cons (.ptr 1 0 0 0) (.cons (.ptr 2 0 0 0) .nil))) (.cons (.int .i64) .nil))), (.cons (.bcells 0 false 1 (.cons (.ptr 3 0 0 0) (.cons .bool .nil))) (.cons (.bcells 0 false 1 (.cons (.msw 4 0) (.cons (.msw 5 0) (.cons .nilS (.cons (.int .i64) (.cons (.int .i64) (.cons (.int .i64) (.cons (.int .u64) .nil)))))))) (.cons (.bcells 0 false 1 (.cons (.ptr 0 0 0 0) .nil)) (.cons (.bcells 0 false 1 (.cons (.sl false false (.int .u8)) (.cons .bool .nil))) (.cons (.bts 0 false false true yA) (.cons (.bts 0 false false true yB) .nil))))))⟩]
def qt_o0 : List StSh := [⟨.exit 0, [], .nil, (.cons (.bcells 0 false 1 (.cons (.ptr 3 0 0 0) (.cons .bool .nil))) (.cons (.bcells 0 false 1 (.cons (.msw 4 0) (.cons .nilS (.cons .nilS (.cons (.int .i64) (.cons (.int .i64) (.cons (.int .i64) (.cons (.int .u64) .nil)))))))) (.cons (.bcells 0 false 1 (.cons (.ptr 0 0 0 0) .nil)) (.cons (.bcells 0 false 1 (.cons (.sl false false (.int .u8)) (.cons .bool .nil))) (.cons (.bts 0 false false true yA) .nil)))))⟩, ⟨.exit 0, [], .nil, (.cons (.bcells 0 false 1 (.cons (.ptr 3 0 0 0) (.cons .bool .nil))) (.cons (.bcells 0 false 1 (.cons (.msw 4 0) (.cons (.msw 5 0) (.cons .nilS (.cons (.int .i64) (.cons (.int .i64) (.cons (.int .i64) (.cons (.int .u64) .nil)))))))) (.cons (.bcells 0 false 1 (.cons (.ptr 0 0 0 0) .nil)) (.cons (.bcells 0 false 1 (.cons (.sl false false (.int .u8)) (.cons .bool .nil))) (.cons (.bts 0 false false true yA) (.cons (.bts 0 false false true yB) .nil))))))⟩]
def qt_L0 (n : Nat) : LEntry := ⟨qt_h0, qt_o0, qt_W0 n⟩
def qt_res : List StSh := [⟨.ret, [0], (.cons (.tup .nil) .nil), (.cons (.bcells 0 false 1 (.cons (.ptr 3 0 0 0) (.cons .bool .nil))) (.cons (.bcells 0 false 1 (.cons (.msw 4 0) (.cons .nilS (.cons .nilS (.cons (.int .i64) (.cons (.int .i64) (.cons (.int .i64) (.cons (.int .u64) .nil)))))))) (.cons (.bcells 0 false 1 (.cons (.ptr 0 0 0 0) .nil)) (.cons (.bcells 0 false 1 (.cons (.sl false false (.int .u8)) (.cons .bool .nil))) (.cons (.bts 0 false false true yA) .nil)))))⟩, ⟨.ret, [0], (.cons (.tup .nil) .nil), (.cons (.bcells 0 false 1 (.cons (.ptr 3 0 0 0) (.cons .bool .nil))) (.cons (.bcells 0 false 1 (.cons (.msw 4 0) (.cons (.msw 5 0) (.cons .nilS (.cons (.int .i64) (.cons (.int .i64) (.cons (.int .i64) (.cons (.int .u64) .nil)))))))) (.cons (.bcells 0 false 1 (.cons (.ptr 0 0 0 0) .nil)) (.cons (.bcells 0 false 1 (.cons (.sl false false (.int .u8)) (.cons .bool .nil))) (.cons (.bts 0 false false true yA) (.cons (.bts 0 false false true yB) .nil))))))⟩]
def qt_tbl (n : Nat) : FuncId → List Entry := fun f => bif Nat.beq f 82 then [qag_E n] else bif Nat.beq f 55 then [qbg_E n] else bif Nat.beq f 88 then [qe_E n, qh_E n] else []
def qt_loops (n : Nat) : Nat → Option LEntry := fun f => bif Nat.beq f 0 then some (qt_L0 n) else none
theorem qt_r0q0 (n : Nat) (n_4 : Int) (m0 : Bool) (m1 : Int) (m1_1 : Int) (m1_2 : Int) (m1_3 : Int) (m3 : DA) (m3_1 : Bool) (m4 : DE) : roundK (real _) tab (qt_tbl n) (qt_loops n) qt_an [some true, some true, some true, some true, some false] qt_l0 0 [0, 1, 4] qt_h0 qt_o0 (Sum.inl (n_4, (m0, ((m1, (m1_1, (m1_2, m1_3))), ((m3, m3_1), m4))))) some = qt_B0q0 n n_4 m0 m1 m1_1 m1_2 m1_3 m3 m3_1 m4 := by kernel_rfl
theorem qt_r0q1 (n : Nat) (n_4 : Int) (m0 : Bool) (m1 : Int) (m1_1 : Int) (m1_2 : Int) (m1_3 : Int) (m3 : DA) (m3_1 : Bool) (m4 : DE) (m5 : DE) : roundK (real _) tab (qt_tbl n) (qt_loops n) qt_an [some true, some true, some true, some true, some false] qt_l0 0 [0, 1, 4] qt_h0 qt_o0 (Sum.inr (n_4, (m0, ((m1, (m1_1, (m1_2, m1_3))), ((m3, m3_1), (m4, m5)))))) some = qt_B0q1 n n_4 m0 m1 m1_1 m1_2 m1_3 m3 m3_1 m4 m5 := by kernel_rfl
theorem qt_f0 (n : Nat) : LoopFact tab (qt_tbl n) (qt_loops n) qt_an [some true, some true, some true, some true, some false] n 0 qt_l0 (qt_L0 n) := ⟨[0, 1, 4], (qt_M0 n), by kernel_rfl, by kernel_rfl, fun s => rfl, fun s => match s with | (Sum.inl a0) => qt_r0q0 n a0.1 a0.2.1 a0.2.2.1.1 a0.2.2.1.2.1 a0.2.2.1.2.2.1 a0.2.2.1.2.2.2 a0.2.2.2.1.1 a0.2.2.2.1.2 a0.2.2.2.2 | (Sum.inr a1) => qt_r0q1 n a1.1 a1.2.1 a1.2.2.1.1 a1.2.2.1.2.1 a1.2.2.1.2.2.1 a1.2.2.1.2.2.2 a1.2.2.2.1.1 a1.2.2.2.1.2 a1.2.2.2.2.1 a1.2.2.2.2.2⟩
theorem qt_run (n : Nat) (m0 : Bool) (m1 : Int) (m1_1 : Int) (m1_2 : Int) (m1_3 : Int) (m3 : DA) (m3_1 : Bool) (m4 : DE) : funDS (real _) tab (qt_tbl n) (qt_loops n) qt_an Try.f84 5 qt_a qt_res (m0, ((m1, (m1_1, (m1_2, m1_3))), ((m3, m3_1), m4))) some = qt n m0 m1 m1_1 m1_2 m1_3 m3 m3_1 m4 := by kernel_rfl
def qt_E (n : Nat) : Entry := ⟨qt_a, qt_res, fun d => qt n d.1 d.2.1.1 d.2.1.2.1 d.2.1.2.2.1 d.2.1.2.2.2 d.2.2.1.1 d.2.2.1.2 d.2.2.2⟩
theorem qt_ok (n : Nat) : EOK Try.prog 84 (qt_E n) :=
 EOK.ofS zc zb ze (tbl := qt_tbl n) (loops := qt_loops n) (an := qt_an) (old := [some true, some true, some true, some true, some false]) (n := n) (c := qt_c) (fn := Try.f84) (TblOK.cons (AllE.cons (qag_ok n) AllE.nil) (TblOK.cons (AllE.cons (qbg_ok n) AllE.nil) (TblOK.cons (AllE.cons (qe_ok n) (AllE.cons (qh_ok n) AllE.nil)) TblOK.nil))) (by kernel_rfl) (by kernel_rfl) (by kernel_rfl) (by kernel_rfl) (fun d => by kernel_rfl) (LT.cons (by kernel_rfl) (qt_f0 n) LT.nil) (fun a => qt_run n a.1 a.2.1.1 a.2.1.2.1 a.2.1.2.2.1 a.2.1.2.2.2 a.2.2.1.1 a.2.2.1.2 a.2.2.2)
def qv_an : Ann := { live := [(0, [0, 1, 4])] }
def qv_c : Code := (match Try.f84.body with | some c => c | none => .skip)
def qv_l0 : Code := (match assoc 0 (loopsIn qv_c 0) with | some c => c | none => .skip)
def qv_a : StSh := ⟨.normal, [0, 1], (.cons (.ptr 0 0 0 0) (.cons (.fn 86 .nil (.cons (.ptr 1 0 0 0) (.cons (.ptr 2 0 0 0) .nil))) .nil)), (.cons (.bcells 0 false 1 (.cons (.ptr 3 0 0 0) (.cons .bool .nil))) (.cons (.bcells 0 false 1 (.cons .nilS (.cons .nilS (.cons (.msw 4 0) (.cons (.int .i64) (.cons (.int .i64) (.cons (.int .i64) (.cons (.int .u64) .nil)))))))) (.cons (.bcells 0 false 1 (.cons (.ptr 0 0 0 0) .nil)) (.cons (.bcells 0 false 1 (.cons (.sl false false (.int .u8)) (.cons .bool .nil))) (.cons (.bts 0 false false true yC) .nil)))))⟩
def qd_an : Ann := { boxed := [(0, 11), (0, 12)] }
def qd_c : Code := (match Try.f86.body with | some c => c | none => .skip)
def qd_a : StSh := ⟨.normal, [0, 1], (.cons (.ptr 0 0 0 0) (.cons (.ptr 1 0 0 0) .nil)), (.cons (.bcells 0 false 1 (.cons .nilS (.cons .nilS (.cons (.msw 2 0) (.cons (.int .i64) (.cons (.int .i64) (.cons (.int .i64) (.cons (.int .u64) .nil)))))))) (.cons (.bcells 0 false 1 (.cons (.ptr 3 0 0 0) .nil)) (.cons (.bts 0 false false true yC) (.cons (.bcells 0 false 1 (.cons (.ptr 4 0 0 0) (.cons .bool .nil))) (.cons (.bcells 0 false 1 (.cons (.sl false false (.int .u8)) (.cons .bool .nil))) .nil)))))⟩
def qd_res : List StSh := [⟨.ret, [0], (.cons (.tup .nil) .nil), (.cons (.bcells 0 false 1 (.cons (.msw 5 0) (.cons .nilS (.cons (.msw 2 0) (.cons (.int .i64) (.cons (.int .i64) (.cons (.int .i64) (.cons (.int .u64) .nil)))))))) (.cons (.bcells 0 false 1 (.cons (.ptr 3 0 0 0) .nil)) (.cons (.bts 0 false false true yC) (.cons (.bcells 0 false 1 (.cons (.ptr 4 0 0 0) (.cons .bool .nil))) (.cons (.bcells 0 false 1 (.cons (.sl false false (.int .u8)) (.cons .bool .nil))) (.cons (.bts 0 false false true yA) .nil))))))⟩]
def qd_tbl (n : Nat) : FuncId → List Entry := fun f => bif Nat.beq f 82 then [qag_E n] else bif Nat.beq f 87 then [qbb_E n] else []
def qd_loops (n : Nat) : Nat → Option LEntry := fun f => none
theorem qd_run (n : Nat) (m0 : Int) (m0_1 : Int) (m0_2 : Int) (m0_3 : Int) (m2 : DB) (m3 : Bool) (m4 : DA) (m4_1 : Bool) : funDS (real _) tab (qd_tbl n) (qd_loops n) qd_an Try.f86 5 qd_a qd_res ((m0, (m0_1, (m0_2, m0_3))), (m2, (m3, (m4, m4_1)))) some = qd n m0 m0_1 m0_2 m0_3 m2 m3 m4 m4_1 := by kernel_rfl
def qd_E (n : Nat) : Entry := ⟨qd_a, qd_res, fun d => qd n d.1.1 d.1.2.1 d.1.2.2.1 d.1.2.2.2 d.2.1 d.2.2.1 d.2.2.2.1 d.2.2.2.2⟩
theorem qd_ok (n : Nat) : EOK Try.prog 86 (qd_E n) :=
 EOK.ofS zc zb ze (tbl := qd_tbl n) (loops := qd_loops n) (an := qd_an) (old := [some true, some true, some false, some true, some true]) (n := n) (c := qd_c) (fn := Try.f86) (TblOK.cons (AllE.cons (qag_ok n) AllE.nil) (TblOK.cons (AllE.cons (qbb_ok n) AllE.nil) TblOK.nil)) (by kernel_rfl) (by kernel_rfl) (by kernel_rfl) (by kernel_rfl) (fun d => by kernel_rfl) LT.nil (fun a => qd_run n a.1.1 a.1.2.1 a.1.2.2.1 a.1.2.2.2 a.2.1 a.2.2.1 a.2.2.2.1 a.2.2.2.2)
def qb_an : Ann := { boxed := [(0, 11), (0, 12)] }
def qb_c : Code := (match Try.f86.body with | some c => c | none => .skip)
def qb_a : StSh := ⟨.normal, [0, 1], (.cons (.ptr 0 0 0 0) (.cons (.ptr 1 0 0 0) .nil)), (.cons (.bcells 0 false 1 (.cons (.msw 2 0) (.cons .nilS (.cons (.msw 3 0) (.cons (.int .i64) (.cons (.int .i64) (.cons (.int .i64) (.cons (.int .u64) .nil)))))))) (.cons (.bcells 0 false 1 (.cons (.ptr 4 0 0 0) .nil)) (.cons (.bts 0 false false true yA) (.cons (.bts 0 false false true yC) (.cons (.bcells 0 false 1 (.cons (.ptr 5 0 0 0) (.cons .bool .nil))) (.cons (.bcells 0 false 1 (.cons (.sl false false (.int .u8)) (.cons .bool .nil))) .nil))))))⟩
def qb_res : List StSh := [⟨.ret, [0], (.cons (.tup .nil) .nil), (.cons (.bcells 0 false 1 (.cons (.msw 2 0) (.cons .nilS (.cons (.msw 3 0) (.cons (.int .i64) (.cons (.int .i64) (.cons (.int .i64) (.cons (.int .u64) .nil)))))))) (.cons (.bcells 0 false 1 (.cons (.ptr 4 0 0 0) .nil)) (.cons (.bts 0 false false true yA) (.cons (.bts 0 false false true yC) (.cons (.bcells 0 false 1 (.cons (.ptr 5 0 0 0) (.cons .bool .nil))) (.cons (.bcells 0 false 1 (.cons (.sl false false (.int .u8)) (.cons .bool .nil))) .nil))))))⟩]
def qb_tbl (n : Nat) : FuncId → List Entry := fun f => bif Nat.beq f 82 then [qag_E n] else bif Nat.beq f 87 then [qbb_E n] else []
def qb_loops (n : Nat) : Nat → Option LEntry := fun f => none
theorem qb_run (n : Nat) (m0 : Int) (m0_1 : Int) (m0_2 : Int) (m0_3 : Int) (m2 : DE) (m3 : DB) (m4 : Bool) (m5 : DA) (m5_1 : Bool) : funDS (real _) tab (qb_tbl n) (qb_loops n) qb_an Try.f86 6 qb_a qb_res ((m0, (m0_1, (m0_2, m0_3))), (m2, (m3, (m4, (m5, m5_1))))) some = qb n m0 m0_1 m0_2 m0_3 m2 m3 m4 m5 m5_1 := by kernel_rfl
def qb_E (n : Nat) : Entry := ⟨qb_a, qb_res, fun d => qb n d.1.1 d.1.2.1 d.1.2.2.1 d.1.2.2.2 d.2.1 d.2.2.1 d.2.2.2.1 d.2.2.2.2.1 d.2.2.2.2.2⟩
theorem qb_ok (n : Nat) : EOK Try.prog 86 (qb_E n) :=
 EOK.ofS zc zb ze (tbl := qb_tbl n) (loops := qb_loops n) (an := qb_an) (old := [some true, some true, some false, some false, some true, some true]) (n := n) (c := qb_c) (fn := Try.f86) (TblOK.cons (AllE.cons (qag_ok n) AllE.nil) (TblOK.cons (AllE.cons (qbb_ok n) AllE.nil) TblOK.nil)) (by kernel_rfl) (by kernel_rfl) (by kernel_rfl) (by kernel_rfl) (fun d => by kernel_rfl) LT.nil (fun a => qb_run n a.1.1 a.1.2.1 a.1.2.2.1 a.1.2.2.2 a.2.1 a.2.2.1 a.2.2.2.1 a.2.2.2.2.1 a.2.2.2.2.2)
def qv_h0 : List StSh := [⟨.normal, [0, 1, 4], (.cons (.ptr 0 0 0 0) (.cons (.fn 86 .nil (.cons (.ptr 1 0 0 0) (.cons (.ptr 2 0 0 0) .nil))) (.cons (.int .i64) .nil))), (.cons (.bcells 0 false 1 (.cons (.ptr 3 0 0 0) (.cons .bool .nil))) (.cons (.bcells 0 false 1 (.cons .nilS (.cons .nilS (.cons (.msw 4 0) (.cons (.int .i64) (.cons (.int .i64) (.cons (.int .i64) (.cons (.int .u64) .nil)))))))) (.cons (.bcells 0 false 1 (.cons (.ptr 0 0 0 0) .nil)) (.cons (.bcells 0 false 1 (.cons (.sl false false (.int .u8)) (.cons .bool .nil))) (.cons (.bts 0 false false true yC) .nil)))))⟩, ⟨.normal, [0, 1, 4], (.cons (.ptr 0 0 0 0) (.cons (.fn 86 .nil (.cons (.ptr 1 0 0 0) (.cons (.ptr 2 0 0 0) .nil))) (.cons (.int .i64) .nil))), (.cons (.bcells 0 false 1 (.cons (.ptr 3 0 0 0) (.cons .bool .nil))) (.cons (.bcells 0 false 1 (.cons (.msw 5 0) (.cons .nilS (.cons (.msw 4 0) (.cons (.int .i64) (.cons (.int .i64) (.cons (.int .i64) (.cons (.int .u64) .nil)))))))) (.cons (.bcells 0 false 1 (.cons (.ptr 0 0 0 0) .nil)) (.cons (.bcells 0 false 1 (.cons (.sl false false (.int .u8)) (.cons .bool .nil))) (.cons (.bts 0 false false true yC) (.cons (.bts 0 false false true yA) .nil))))))⟩]
def qv_o0 : List StSh := [⟨.exit 0, [], .nil, (.cons (.bcells 0 false 1 (.cons (.ptr 3 0 0 0) (.cons .bool .nil))) (.cons (.bcells 0 false 1 (.cons .nilS (.cons .nilS (.cons (.msw 4 0) (.cons (.int .i64) (.cons (.int .i64) (.cons (.int .i64) (.cons (.int .u64) .nil)))))))) (.cons (.bcells 0 false 1 (.cons (.ptr 0 0 0 0) .nil)) (.cons (.bcells 0 false 1 (.cons (.sl false false (.int .u8)) (.cons .bool .nil))) (.cons (.bts 0 false false true yC) .nil)))))⟩, ⟨.exit 0, [], .nil, (.cons (.bcells 0 false 1 (.cons (.ptr 3 0 0 0) (.cons .bool .nil))) (.cons (.bcells 0 false 1 (.cons (.msw 5 0) (.cons .nilS (.cons (.msw 4 0) (.cons (.int .i64) (.cons (.int .i64) (.cons (.int .i64) (.cons (.int .u64) .nil)))))))) (.cons (.bcells 0 false 1 (.cons (.ptr 0 0 0 0) .nil)) (.cons (.bcells 0 false 1 (.cons (.sl false false (.int .u8)) (.cons .bool .nil))) (.cons (.bts 0 false false true yC) (.cons (.bts 0 false false true yA) .nil))))))⟩]
def qv_L0 (n : Nat) : LEntry := ⟨qv_h0, qv_o0, qv_W0 n⟩
def qv_res : List StSh := [⟨.ret, [0], (.cons (.tup .nil) .nil), (.cons (.bcells 0 false 1 (.cons (.ptr 3 0 0 0) (.cons .bool .nil))) (.cons (.bcells 0 false 1 (.cons .nilS (.cons .nilS (.cons (.msw 4 0) (.cons (.int .i64) (.cons (.int .i64) (.cons (.int .i64) (.cons (.int .u64) .nil)))))))) (.cons (.bcells 0 false 1 (.cons (.ptr 0 0 0 0) .nil)) (.cons (.bcells 0 false 1 (.cons (.sl false false (.int .u8)) (.cons .bool .nil))) (.cons (.bts 0 false false true yC) .nil)))))⟩, ⟨.ret, [0], (.cons (.tup .nil) .nil), (.cons (.bcells 0 false 1 (.cons (.ptr 3 0 0 0) (.cons .bool .nil))) (.cons (.bcells 0 false 1 (.cons (.msw 5 0) (.cons .nilS (.cons (.msw 4 0) (.cons (.int .i64) (.cons (.int .i64) (.cons (.int .i64) (.cons (.int .u64) .nil)))))))) (.cons (.bcells 0 false 1 (.cons (.ptr 0 0 0 0) .nil)) (.cons (.bcells 0 false 1 (.cons (.sl false false (.int .u8)) (.cons .bool .nil))) (.cons (.bts 0 false false true yC) (.cons (.bts 0 false false true yA) .nil))))))⟩]
def qv_tbl (n : Nat) : FuncId → List Entry := fun f => bif Nat.beq f 82 then [qag_E n] else bif Nat.beq f 55 then [qbg_E n] else bif Nat.beq f 86 then [qd_E n, qb_E n] else []
def qv_loops (n : Nat) : Nat → Option LEntry := fun f => bif Nat.beq f 0 then some (qv_L0 n) else none
theorem qv_r0q0 (n : Nat) (n_4 : Int) (m0 : Bool) (m1 : Int) (m1_1 : Int) (m1_2 : Int) (m1_3 : Int) (m3 : DA) (m3_1 : Bool) (m4 : DB) : roundK (real _) tab (qv_tbl n) (qv_loops n) qv_an [some true, some true, some true, some true, some false] qv_l0 0 [0, 1, 4] qv_h0 qv_o0 (Sum.inl (n_4, (m0, ((m1, (m1_1, (m1_2, m1_3))), ((m3, m3_1), m4))))) some = qv_B0q0 n n_4 m0 m1 m1_1 m1_2 m1_3 m3 m3_1 m4 := by kernel_rfl
theorem qv_r0q1 (n : Nat) (n_4 : Int) (m0 : Bool) (m1 : Int) (m1_1 : Int) (m1_2 : Int) (m1_3 : Int) (m3 : DA) (m3_1 : Bool) (m4 : DB) (m5 : DE) : roundK (real _) tab (qv_tbl n) (qv_loops n) qv_an [some true, some true, some true, some true, some false] qv_l0 0 [0, 1, 4] qv_h0 qv_o0 (Sum.inr (n_4, (m0, ((m1, (m1_1, (m1_2, m1_3))), ((m3, m3_1), (m4, m5)))))) some = qv_B0q1 n n_4 m0 m1 m1_1 m1_2 m1_3 m3 m3_1 m4 m5 := by kernel_rfl
theorem qv_f0 (n : Nat) : LoopFact tab (qv_tbl n) (qv_loops n) qv_an [some true, some true, some true, some true, some false] n 0 qv_l0 (qv_L0 n) := ⟨[0, 1, 4], (qv_M0 n), by kernel_rfl, by kernel_rfl, fun s => rfl, fun s => match s with | (Sum.inl a0) => qv_r0q0 n a0.1 a0.2.1 a0.2.2.1.1 a0.2.2.1.2.1 a0.2.2.1.2.2.1 a0.2.2.1.2.2.2 a0.2.2.2.1.1 a0.2.2.2.1.2 a0.2.2.2.2 | (Sum.inr a1) => qv_r0q1 n a1.1 a1.2.1 a1.2.2.1.1 a1.2.2.1.2.1 a1.2.2.1.2.2.1 a1.2.2.1.2.2.2 a1.2.2.2.1.1 a1.2.2.2.1.2 a1.2.2.2.2.1 a1.2.2.2.2.2⟩
theorem qv_run (n : Nat) (m0 : Bool) (m1 : Int) (m1_1 : Int) (m1_2 : Int) (m1_3 : Int) (m3 : DA) (m3_1 : Bool) (m4 : DB) : funDS (real _) tab (qv_tbl n) (qv_loops n) qv_an Try.f84 5 qv_a qv_res (m0, ((m1, (m1_1, (m1_2, m1_3))), ((m3, m3_1), m4))) some = qv n m0 m1 m1_1 m1_2 m1_3 m3 m3_1 m4 := by kernel_rfl
def qv_E (n : Nat) : Entry := ⟨qv_a, qv_res, fun d => qv n d.1 d.2.1.1 d.2.1.2.1 d.2.1.2.2.1 d.2.1.2.2.2 d.2.2.1.1 d.2.2.1.2 d.2.2.2⟩
theorem qv_ok (n : Nat) : EOK Try.prog 84 (qv_E n) :=
 EOK.ofS zc zb ze (tbl := qv_tbl n) (loops := qv_loops n) (an := qv_an) (old := [some true, some true, some true, some true, some false]) (n := n) (c := qv_c) (fn := Try.f84) (TblOK.cons (AllE.cons (qag_ok n) AllE.nil) (TblOK.cons (AllE.cons (qbg_ok n) AllE.nil) (TblOK.cons (AllE.cons (qd_ok n) (AllE.cons (qb_ok n) AllE.nil)) TblOK.nil))) (by kernel_rfl) (by kernel_rfl) (by kernel_rfl) (by kernel_rfl) (fun d => by kernel_rfl) (LT.cons (by kernel_rfl) (qv_f0 n) LT.nil) (fun a => qv_run n a.1 a.2.1.1 a.2.1.2.1 a.2.1.2.2.1 a.2.1.2.2.2 a.2.2.1.1 a.2.2.1.2 a.2.2.2)
end
end Sx
