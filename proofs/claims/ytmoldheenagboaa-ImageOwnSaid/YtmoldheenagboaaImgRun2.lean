import Derived.Test.YtmoldheenagboaaProg
import Derived.Test.YtmoldheenagboaaLib32
import Derived.Test.YtmoldheenagboaaImgFixB
import Derived.KernelRfl
open Go Go.Ab Go.Proofs
set_option linter.unusedVariables false
set_option maxRecDepth 20000
namespace Sx
noncomputable section
def qae_res : List StSh := [⟨.ret, [0], (.cons (.tup (.cons .nilP (.cons (.int .u32) (.cons (.int .i64) .nil)))) .nil), .nil⟩, ⟨.ret, [0], (.cons (.tup (.cons (.ptr 0 0 0 0) (.cons (.int .u32) (.cons (.int .i64) .nil)))) .nil), (.cons (.bcells 0 false 1 (.cons (.sl false false (.int .u8)) (.cons .bool .nil))) .nil)⟩]
def qae_tbl (n : Nat) : FuncId → List Entry := fun f => bif Nat.beq f 72 then [qax_E n] else bif Nat.beq f 73 then [qx_E n] else bif Nat.beq f 74 then [qm_E n] else bif Nat.beq f 55 then [qab_E n] else []
def qae_loops (n : Nat) : Nat → Option LEntry := fun f => none
theorem qae_run (n : Nat) (b_0 : DA) (first_1 : Int) : funDS (real _) tab (qae_tbl n) (qae_loops n) qae_an Try.f38 0 qae_a qae_res (b_0, first_1) some = qae n b_0 first_1 := by kernel_rfl
def qae_E (n : Nat) : Entry := ⟨qae_a, qae_res, fun d => qae n d.1 d.2⟩
theorem qae_ok (n : Nat) : EOK Try.prog 38 (qae_E n) :=
 EOK.ofS zc zb zj (tbl := qae_tbl n) (loops := qae_loops n) (an := qae_an) (old := []) (n := n) (c := qae_c) (fn := Try.f38) (TblOK.cons (AllE.cons (qax_ok n) AllE.nil) (TblOK.cons (AllE.cons (qx_ok n) AllE.nil) (TblOK.cons (AllE.cons (qm_ok n) AllE.nil) (TblOK.cons (AllE.cons (qab_ok n) AllE.nil) TblOK.nil)))) (by kernel_rfl) (by kernel_rfl) (by kernel_rfl) (by kernel_rfl) (fun d => by kernel_rfl) LT.nil (fun a => qae_run n a.1 a.2)
def qj_an : Ann := {}
def qj_c : Code := (match Try.f39.body with | some c => c | none => .skip)
def qj_a : StSh := ⟨.normal, [0], (.cons (.ptr 0 0 0 0) .nil), (.cons (.bcells 0 false 1 (.cons .nilP (.cons .bool .nil))) .nil)⟩
def qaa_an : Ann := { live := [(0, [0, 3, 4])] }
def qaa_c : Code := (match Try.f40.body with | some c => c | none => .skip)
def qaa_l0 : Code := (match assoc 0 (loopsIn qaa_c 0) with | some c => c | none => .skip)
def qaa_a : StSh := ⟨.normal, [0], (.cons .nilP .nil), .nil⟩
def qg_an : Ann := {}
def qg_c : Code := (match Try.f75.body with | some c => c | none => .skip)
def qg_a : StSh := ⟨.normal, [0, 1], (.cons .nilP (.cons (.int .i64) .nil)), .nil⟩
def qo_an : Ann := {}
def qo_c : Code := (match Try.f55.body with | some c => c | none => .skip)
def qo_a : StSh := ⟨.normal, [0], (.cons .nilP .nil), .nil⟩
def qo_res : List StSh := []
def qo_tbl (n : Nat) : FuncId → List Entry := fun f => []
def qo_loops (n : Nat) : Nat → Option LEntry := fun f => none
theorem qo_run (n : Nat) : funDS (real _) tab (qo_tbl n) (qo_loops n) qo_an Try.f55 0 qo_a qo_res () some = qo n := by kernel_rfl
def qo_E (n : Nat) : Entry := ⟨qo_a, qo_res, fun d => qo n⟩
theorem qo_ok (n : Nat) : EOK Try.prog 55 (qo_E n) :=
 EOK.ofS zc zb zj (tbl := qo_tbl n) (loops := qo_loops n) (an := qo_an) (old := []) (n := n) (c := qo_c) (fn := Try.f55) TblOK.nil (by kernel_rfl) (by kernel_rfl) (by kernel_rfl) (by kernel_rfl) (fun d => by kernel_rfl) LT.nil (fun a => qo_run n)
def qg_res : List StSh := []
def qg_tbl (n : Nat) : FuncId → List Entry := fun f => bif Nat.beq f 55 then [qo_E n] else []
def qg_loops (n : Nat) : Nat → Option LEntry := fun f => none
theorem qg_run (n : Nat) (n_1 : Int) : funDS (real _) tab (qg_tbl n) (qg_loops n) qg_an Try.f75 0 qg_a qg_res n_1 some = qg n n_1 := by kernel_rfl
def qg_E (n : Nat) : Entry := ⟨qg_a, qg_res, fun d => qg n d⟩
theorem qg_ok (n : Nat) : EOK Try.prog 75 (qg_E n) :=
 EOK.ofS zc zb zj (tbl := qg_tbl n) (loops := qg_loops n) (an := qg_an) (old := []) (n := n) (c := qg_c) (fn := Try.f75) (TblOK.cons (AllE.cons (qo_ok n) AllE.nil) TblOK.nil) (by kernel_rfl) (by kernel_rfl) (by kernel_rfl) (by kernel_rfl) (fun d => by kernel_rfl) LT.nil (fun a => qg_run n a)
def qaa_h0 : List StSh := [⟨.normal, [0, 3, 4], (.cons .nilP (.cons (.int .u64) (.cons (.int .i64) .nil))), .nil⟩]
def qaa_o0 : List StSh := []
def qaa_L0 (n : Nat) : LEntry := ⟨qaa_h0, qaa_o0, qaa_W0 n⟩
def qaa_res : List StSh := []
def qaa_tbl (n : Nat) : FuncId → List Entry := fun f => bif Nat.beq f 75 then [qg_E n] else []
def qaa_loops (n : Nat) : Nat → Option LEntry := fun f => bif Nat.beq f 0 then some (qaa_L0 n) else none
theorem qaa_r0 (n : Nat) (v_3 : Int) (k_4 : Int) : roundK (real _) tab (qaa_tbl n) (qaa_loops n) qaa_an [] qaa_l0 0 [0, 3, 4] qaa_h0 qaa_o0 (v_3, k_4) some = qaa_B0 n v_3 k_4 := by kernel_rfl
theorem qaa_f0 (n : Nat) : LoopFact tab (qaa_tbl n) (qaa_loops n) qaa_an [] n 0 qaa_l0 (qaa_L0 n) := ⟨[0, 3, 4], (fun s => qaa_B0 n s.1 s.2), by kernel_rfl, by kernel_rfl, fun s => rfl, fun s => qaa_r0 n s.1 s.2⟩
theorem qaa_run (n : Nat) : funDS (real _) tab (qaa_tbl n) (qaa_loops n) qaa_an Try.f40 0 qaa_a qaa_res () some = qaa n := by kernel_rfl
def qaa_E (n : Nat) : Entry := ⟨qaa_a, qaa_res, fun d => qaa n⟩
theorem qaa_ok (n : Nat) : EOK Try.prog 40 (qaa_E n) :=
 EOK.ofS zc zb zj (tbl := qaa_tbl n) (loops := qaa_loops n) (an := qaa_an) (old := []) (n := n) (c := qaa_c) (fn := Try.f40) (TblOK.cons (AllE.cons (qg_ok n) AllE.nil) TblOK.nil) (by kernel_rfl) (by kernel_rfl) (by kernel_rfl) (by kernel_rfl) (fun d => by kernel_rfl) (LT.cons (by kernel_rfl) (qaa_f0 n) LT.nil) (fun a => qaa_run n)
def qj_res : List StSh := []
def qj_tbl (n : Nat) : FuncId → List Entry := fun f => bif Nat.beq f 40 then [qaa_E n] else []
def qj_loops (n : Nat) : Nat → Option LEntry := fun f => none
theorem qj_run (n : Nat) (m0 : Bool) : funDS (real _) tab (qj_tbl n) (qj_loops n) qj_an Try.f39 1 qj_a qj_res m0 some = qj n m0 := by kernel_rfl
def qj_E (n : Nat) : Entry := ⟨qj_a, qj_res, fun d => qj n d⟩
theorem qj_ok (n : Nat) : EOK Try.prog 39 (qj_E n) :=
 EOK.ofS zc zb zj (tbl := qj_tbl n) (loops := qj_loops n) (an := qj_an) (old := [some true]) (n := n) (c := qj_c) (fn := Try.f39) (TblOK.cons (AllE.cons (qaa_ok n) AllE.nil) TblOK.nil) (by kernel_rfl) (by kernel_rfl) (by kernel_rfl) (by kernel_rfl) (fun d => by kernel_rfl) LT.nil (fun a => qj_run n a)
def qf_an : Ann := {}
def qf_c : Code := (match Try.f39.body with | some c => c | none => .skip)
def qf_a : StSh := ⟨.normal, [0], (.cons (.ptr 0 0 0 0) .nil), (.cons (.bcells 0 false 1 (.cons (.ptr 1 0 0 0) (.cons .bool .nil))) (.cons (.bcells 0 false 1 (.cons (.sl false false (.int .u8)) (.cons .bool .nil))) .nil))⟩
def qr_an : Ann := { live := [(0, [0, 3, 4])] }
def qr_c : Code := (match Try.f40.body with | some c => c | none => .skip)
def qr_l0 : Code := (match assoc 0 (loopsIn qr_c 0) with | some c => c | none => .skip)
def qr_a : StSh := ⟨.normal, [0], (.cons (.ptr 0 0 0 0) .nil), (.cons (.bcells 0 false 1 (.cons (.sl false false (.int .u8)) (.cons .bool .nil))) .nil)⟩
def qr_h0 : List StSh := [⟨.normal, [0, 3, 4], (.cons (.ptr 0 0 0 0) (.cons (.int .u64) (.cons (.int .i64) .nil))), (.cons (.bcells 0 false 1 (.cons (.sl false false (.int .u8)) (.cons .bool .nil))) .nil)⟩]
def qr_o0 : List StSh := [⟨.ret, [2], (.cons (.int .u64) .nil), (.cons (.bcells 0 false 1 (.cons (.sl false false (.int .u8)) (.cons .bool .nil))) .nil)⟩]
def qr_L0 (n : Nat) : LEntry := ⟨qr_h0, qr_o0, qr_W0 n⟩
def qr_res : List StSh := [⟨.ret, [0], (.cons (.int .u64) .nil), (.cons (.bcells 0 false 1 (.cons (.sl false false (.int .u8)) (.cons .bool .nil))) .nil)⟩]
def qr_tbl (n : Nat) : FuncId → List Entry := fun f => bif Nat.beq f 75 then [qv_E n] else bif Nat.beq f 76 then [qw_E n] else []
def qr_loops (n : Nat) : Nat → Option LEntry := fun f => bif Nat.beq f 0 then some (qr_L0 n) else none
theorem qr_r0 (n : Nat) (v_3 : Int) (k_4 : Int) (m0 : DA) (m0_1 : Bool) : roundK (real _) tab (qr_tbl n) (qr_loops n) qr_an [some true] qr_l0 0 [0, 3, 4] qr_h0 qr_o0 ((v_3, k_4), (m0, m0_1)) some = qr_B0 n v_3 k_4 m0 m0_1 := by kernel_rfl
theorem qr_f0 (n : Nat) : LoopFact tab (qr_tbl n) (qr_loops n) qr_an [some true] n 0 qr_l0 (qr_L0 n) := ⟨[0, 3, 4], (fun s => qr_B0 n s.1.1 s.1.2 s.2.1 s.2.2), by kernel_rfl, by kernel_rfl, fun s => rfl, fun s => qr_r0 n s.1.1 s.1.2 s.2.1 s.2.2⟩
theorem qr_run (n : Nat) (m0 : DA) (m0_1 : Bool) : funDS (real _) tab (qr_tbl n) (qr_loops n) qr_an Try.f40 1 qr_a qr_res (m0, m0_1) some = qr n m0 m0_1 := by kernel_rfl
def qr_E (n : Nat) : Entry := ⟨qr_a, qr_res, fun d => qr n d.1 d.2⟩
theorem qr_ok (n : Nat) : EOK Try.prog 40 (qr_E n) :=
 EOK.ofS zc zb zj (tbl := qr_tbl n) (loops := qr_loops n) (an := qr_an) (old := [some true]) (n := n) (c := qr_c) (fn := Try.f40) (TblOK.cons (AllE.cons (qv_ok n) AllE.nil) (TblOK.cons (AllE.cons (qw_ok n) AllE.nil) TblOK.nil)) (by kernel_rfl) (by kernel_rfl) (by kernel_rfl) (by kernel_rfl) (fun d => by kernel_rfl) (LT.cons (by kernel_rfl) (qr_f0 n) LT.nil) (fun a => qr_run n a.1 a.2)
def qf_res : List StSh := [⟨.ret, [0], (.cons (.int .i64) .nil), (.cons (.bcells 0 false 1 (.cons (.ptr 1 0 0 0) (.cons .bool .nil))) (.cons (.bcells 0 false 1 (.cons (.sl false false (.int .u8)) (.cons .bool .nil))) .nil))⟩]
def qf_tbl (n : Nat) : FuncId → List Entry := fun f => bif Nat.beq f 40 then [qr_E n] else []
def qf_loops (n : Nat) : Nat → Option LEntry := fun f => none
theorem qf_run (n : Nat) (m0 : Bool) (m1 : DA) (m1_1 : Bool) : funDS (real _) tab (qf_tbl n) (qf_loops n) qf_an Try.f39 2 qf_a qf_res (m0, (m1, m1_1)) some = qf n m0 m1 m1_1 := by kernel_rfl
def qf_E (n : Nat) : Entry := ⟨qf_a, qf_res, fun d => qf n d.1 d.2.1 d.2.2⟩
theorem qf_ok (n : Nat) : EOK Try.prog 39 (qf_E n) :=
 EOK.ofS zc zb zj (tbl := qf_tbl n) (loops := qf_loops n) (an := qf_an) (old := [some true, some true]) (n := n) (c := qf_c) (fn := Try.f39) (TblOK.cons (AllE.cons (qr_ok n) AllE.nil) TblOK.nil) (by kernel_rfl) (by kernel_rfl) (by kernel_rfl) (by kernel_rfl) (fun d => by kernel_rfl) LT.nil (fun a => qf_run n a.1 a.2.1 a.2.2)
def qb_an : Ann := { live := [(0, [0, 1, 5, 6])], boxed := [(1, 0), (5, 4)] }
def qb_c : Code := (match Try.f41.body with | some c => c | none => .skip)
def qb_l0 : Code := (match assoc 0 (loopsIn qb_c 0) with | some c => c | none => .skip)
def qb_a : StSh := ⟨.normal, [0, 1], (.cons (.ptr 0 0 0 0) (.cons (.fn 42 (.cons (.ptr 0 0 0 0) .nil) .nil) .nil)), (.cons (.bcells 0 false 1 (.cons (.ptr 1 0 0 0) (.cons .bool .nil))) (.cons (.bcells 0 false 1 (.cons (.sl false false (.int .u8)) (.cons .bool .nil))) .nil))⟩
def qc_an : Ann := {}
def qc_c : Code := (match Try.f47.body with | some c => c | none => .skip)
def qc_a : StSh := ⟨.normal, [0], (.cons (.ptr 0 0 0 0) .nil), (.cons (.bcells 0 false 1 (.cons (.ptr 1 0 0 0) (.cons .bool .nil))) (.cons (.bcells 0 false 1 (.cons (.sl false false (.int .u8)) (.cons .bool .nil))) .nil))⟩
def qc_res : List StSh := [⟨.ret, [0], (.cons .bool .nil), (.cons (.bcells 0 false 1 (.cons (.ptr 1 0 0 0) (.cons .bool .nil))) (.cons (.bcells 0 false 1 (.cons (.sl false false (.int .u8)) (.cons .bool .nil))) .nil))⟩]
def qc_tbl (n : Nat) : FuncId → List Entry := fun f => bif Nat.beq f 55 then [qab_E n] else []
def qc_loops (n : Nat) : Nat → Option LEntry := fun f => none
theorem qc_run (n : Nat) (m0 : Bool) (m1 : DA) (m1_1 : Bool) : funDS (real _) tab (qc_tbl n) (qc_loops n) qc_an Try.f47 2 qc_a qc_res (m0, (m1, m1_1)) some = qc n m0 m1 m1_1 := by kernel_rfl
def qc_E (n : Nat) : Entry := ⟨qc_a, qc_res, fun d => qc n d.1 d.2.1 d.2.2⟩
theorem qc_ok (n : Nat) : EOK Try.prog 47 (qc_E n) :=
 EOK.ofS zc zb zj (tbl := qc_tbl n) (loops := qc_loops n) (an := qc_an) (old := [some true, some true]) (n := n) (c := qc_c) (fn := Try.f47) (TblOK.cons (AllE.cons (qab_ok n) AllE.nil) TblOK.nil) (by kernel_rfl) (by kernel_rfl) (by kernel_rfl) (by kernel_rfl) (fun d => by kernel_rfl) LT.nil (fun a => qc_run n a.1 a.2.1 a.2.2)
def qe_an : Ann := {}
def qe_c : Code := (match Try.f42.body with | some c => c | none => .skip)
def qe_a : StSh := ⟨.normal, [0], (.cons (.ptr 0 0 0 0) .nil), (.cons (.bcells 0 false 1 (.cons (.ptr 1 0 0 0) (.cons .bool .nil))) (.cons (.bcells 0 false 1 (.cons (.sl false false (.int .u8)) (.cons .bool .nil))) .nil))⟩
def qi_an : Ann := { live := [(0, [0, 1, 5, 6])], boxed := [(1, 0), (5, 4)] }
def qi_c : Code := (match Try.f77.body with | some c => c | none => .skip)
def qi_l0 : Code := (match assoc 0 (loopsIn qi_c 0) with | some c => c | none => .skip)
def qi_a : StSh := ⟨.normal, [0, 1], (.cons (.ptr 0 0 0 0) (.cons (.fn 40 (.cons (.ptr 1 0 0 0) .nil) .nil) .nil)), (.cons (.bcells 0 false 1 (.cons (.ptr 1 0 0 0) (.cons .bool .nil))) (.cons (.bcells 0 false 1 (.cons (.sl false false (.int .u8)) (.cons .bool .nil))) .nil))⟩
def qi_h0 : List StSh := [⟨.normal, [0, 1, 5, 6], (.cons (.ptr 0 0 0 0) (.cons (.fn 40 (.cons (.ptr 1 0 0 0) .nil) .nil) (.cons (.msw 2 0) (.cons (.int .i64) .nil)))), (.cons (.bcells 0 false 1 (.cons (.ptr 1 0 0 0) (.cons .bool .nil))) (.cons (.bcells 0 false 1 (.cons (.sl false false (.int .u8)) (.cons .bool .nil))) (.cons (.bts 0 false false false (.int .u64)) .nil)))⟩]
def qi_o0 : List StSh := [⟨.exit 0, [5], (.cons (.msw 2 0) .nil), (.cons (.bcells 0 false 1 (.cons (.ptr 1 0 0 0) (.cons .bool .nil))) (.cons (.bcells 0 false 1 (.cons (.sl false false (.int .u8)) (.cons .bool .nil))) (.cons (.bts 0 false false false (.int .u64)) .nil)))⟩]
def qi_L0 (n : Nat) : LEntry := ⟨qi_h0, qi_o0, qi_W0 n⟩
def qi_res : List StSh := [⟨.ret, [0], (.cons (.sl false false (.int .u64)) .nil), (.cons (.bcells 0 false 1 (.cons (.ptr 1 0 0 0) (.cons .bool .nil))) (.cons (.bcells 0 false 1 (.cons (.sl false false (.int .u8)) (.cons .bool .nil))) .nil))⟩]
def qi_tbl (n : Nat) : FuncId → List Entry := fun f => bif Nat.beq f 39 then [qf_E n] else bif Nat.beq f 47 then [qc_E n] else bif Nat.beq f 40 then [qr_E n] else []
def qi_loops (n : Nat) : Nat → Option LEntry := fun f => bif Nat.beq f 0 then some (qi_L0 n) else none
theorem qi_r0 (n : Nat) (n_6 : Int) (m0 : Bool) (m1 : DA) (m1_1 : Bool) (m2 : DA) : roundK (real _) tab (qi_tbl n) (qi_loops n) qi_an [some true, some true] qi_l0 0 [0, 1, 5, 6] qi_h0 qi_o0 (n_6, (m0, ((m1, m1_1), m2))) some = qi_B0 n n_6 m0 m1 m1_1 m2 := by kernel_rfl
theorem qi_f0 (n : Nat) : LoopFact tab (qi_tbl n) (qi_loops n) qi_an [some true, some true] n 0 qi_l0 (qi_L0 n) := ⟨[0, 1, 5, 6], (fun s => qi_B0 n s.1 s.2.1 s.2.2.1.1 s.2.2.1.2 s.2.2.2), by kernel_rfl, by kernel_rfl, fun s => rfl, fun s => qi_r0 n s.1 s.2.1 s.2.2.1.1 s.2.2.1.2 s.2.2.2⟩
theorem qi_run (n : Nat) (m0 : Bool) (m1 : DA) (m1_1 : Bool) : funDS (real _) tab (qi_tbl n) (qi_loops n) qi_an Try.f77 2 qi_a qi_res (m0, (m1, m1_1)) some = qi n m0 m1 m1_1 := by kernel_rfl
def qi_E (n : Nat) : Entry := ⟨qi_a, qi_res, fun d => qi n d.1 d.2.1 d.2.2⟩
theorem qi_ok (n : Nat) : EOK Try.prog 77 (qi_E n) :=
 EOK.ofS zc zb zj (tbl := qi_tbl n) (loops := qi_loops n) (an := qi_an) (old := [some true, some true]) (n := n) (c := qi_c) (fn := Try.f77) (TblOK.cons (AllE.cons (qf_ok n) AllE.nil) (TblOK.cons (AllE.cons (qc_ok n) AllE.nil) (TblOK.cons (AllE.cons (qr_ok n) AllE.nil) TblOK.nil))) (by kernel_rfl) (by kernel_rfl) (by kernel_rfl) (by kernel_rfl) (fun d => by kernel_rfl) (LT.cons (by kernel_rfl) (qi_f0 n) LT.nil) (fun a => qi_run n a.1 a.2.1 a.2.2)
def qe_res : List StSh := [⟨.ret, [0], (.cons (.agg (.cons (.int .i64) (.cons (.int .i64) (.cons (.sl false false (.int .u64)) (.cons (.sl false false (.int .u64)) .nil))))) .nil), (.cons (.bcells 0 false 1 (.cons (.ptr 1 0 0 0) (.cons .bool .nil))) (.cons (.bcells 0 false 1 (.cons (.sl false false (.int .u8)) (.cons .bool .nil))) .nil))⟩]
def qe_tbl (n : Nat) : FuncId → List Entry := fun f => bif Nat.beq f 39 then [qf_E n] else bif Nat.beq f 77 then [qi_E n] else []
def qe_loops (n : Nat) : Nat → Option LEntry := fun f => none
theorem qe_run (n : Nat) (m0 : Bool) (m1 : DA) (m1_1 : Bool) : funDS (real _) tab (qe_tbl n) (qe_loops n) qe_an Try.f42 2 qe_a qe_res (m0, (m1, m1_1)) some = qe n m0 m1 m1_1 := by kernel_rfl
def qe_E (n : Nat) : Entry := ⟨qe_a, qe_res, fun d => qe n d.1 d.2.1 d.2.2⟩
theorem qe_ok (n : Nat) : EOK Try.prog 42 (qe_E n) :=
 EOK.ofS zc zb zj (tbl := qe_tbl n) (loops := qe_loops n) (an := qe_an) (old := [some true, some true]) (n := n) (c := qe_c) (fn := Try.f42) (TblOK.cons (AllE.cons (qf_ok n) AllE.nil) (TblOK.cons (AllE.cons (qi_ok n) AllE.nil) TblOK.nil)) (by kernel_rfl) (by kernel_rfl) (by kernel_rfl) (by kernel_rfl) (fun d => by kernel_rfl) LT.nil (fun a => qe_run n a.1 a.2.1 a.2.2)
def qb_h0 : List StSh := [⟨.normal, [0, 1, 5, 6], (.cons (.ptr 0 0 0 0) (.cons (.fn 42 (.cons (.ptr 0 0 0 0) .nil) .nil) (.cons (.msw 2 0) (.cons (.int .i64) .nil)))), (.cons (.bcells 0 false 1 (.cons (.ptr 1 0 0 0) (.cons .bool .nil))) (.cons (.bcells 0 false 1 (.cons (.sl false false (.int .u8)) (.cons .bool .nil))) (.cons (.bts 0 false false true yA) .nil)))⟩]
def qb_o0 : List StSh := [⟨.exit 0, [5], (.cons (.msw 2 0) .nil), (.cons (.bcells 0 false 1 (.cons (.ptr 1 0 0 0) (.cons .bool .nil))) (.cons (.bcells 0 false 1 (.cons (.sl false false (.int .u8)) (.cons .bool .nil))) (.cons (.bts 0 false false true yA) .nil)))⟩]
def qb_L0 (n : Nat) : LEntry := ⟨qb_h0, qb_o0, qb_W0 n⟩
def qb_res : List StSh := [⟨.ret, [0], (.cons (.sl false true yA) .nil), (.cons (.bcells 0 false 1 (.cons (.ptr 1 0 0 0) (.cons .bool .nil))) (.cons (.bcells 0 false 1 (.cons (.sl false false (.int .u8)) (.cons .bool .nil))) .nil))⟩]
def qb_tbl (n : Nat) : FuncId → List Entry := fun f => bif Nat.beq f 39 then [qf_E n] else bif Nat.beq f 47 then [qc_E n] else bif Nat.beq f 42 then [qe_E n] else []
def qb_loops (n : Nat) : Nat → Option LEntry := fun f => bif Nat.beq f 0 then some (qb_L0 n) else none
theorem qb_r0 (n : Nat) (n_6 : Int) (m0 : Bool) (m1 : DA) (m1_1 : Bool) (m2 : DE) : roundK (real _) tab (qb_tbl n) (qb_loops n) qb_an [some true, some true] qb_l0 0 [0, 1, 5, 6] qb_h0 qb_o0 (n_6, (m0, ((m1, m1_1), m2))) some = qb_B0 n n_6 m0 m1 m1_1 m2 := by kernel_rfl
theorem qb_f0 (n : Nat) : LoopFact tab (qb_tbl n) (qb_loops n) qb_an [some true, some true] n 0 qb_l0 (qb_L0 n) := ⟨[0, 1, 5, 6], (fun s => qb_B0 n s.1 s.2.1 s.2.2.1.1 s.2.2.1.2 s.2.2.2), by kernel_rfl, by kernel_rfl, fun s => rfl, fun s => qb_r0 n s.1 s.2.1 s.2.2.1.1 s.2.2.1.2 s.2.2.2⟩
theorem qb_run (n : Nat) (m0 : Bool) (m1 : DA) (m1_1 : Bool) : funDS (real _) tab (qb_tbl n) (qb_loops n) qb_an Try.f41 2 qb_a qb_res (m0, (m1, m1_1)) some = qb n m0 m1 m1_1 := by kernel_rfl
def qb_E (n : Nat) : Entry := ⟨qb_a, qb_res, fun d => qb n d.1 d.2.1 d.2.2⟩
theorem qb_ok (n : Nat) : EOK Try.prog 41 (qb_E n) :=
 EOK.ofS zc zb zj (tbl := qb_tbl n) (loops := qb_loops n) (an := qb_an) (old := [some true, some true]) (n := n) (c := qb_c) (fn := Try.f41) (TblOK.cons (AllE.cons (qf_ok n) AllE.nil) (TblOK.cons (AllE.cons (qc_ok n) AllE.nil) (TblOK.cons (AllE.cons (qe_ok n) AllE.nil) TblOK.nil))) (by kernel_rfl) (by kernel_rfl) (by kernel_rfl) (by kernel_rfl) (fun d => by kernel_rfl) (LT.cons (by kernel_rfl) (qb_f0 n) LT.nil) (fun a => qb_run n a.1 a.2.1 a.2.2)
def qh_an : Ann := { live := [(0, [0, 1, 5, 6])], boxed := [(1, 0), (5, 4)] }
def qh_c : Code := (match Try.f43.body with | some c => c | none => .skip)
def qh_l0 : Code := (match assoc 0 (loopsIn qh_c 0) with | some c => c | none => .skip)
def qh_a : StSh := ⟨.normal, [0, 1], (.cons (.ptr 0 0 0 0) (.cons (.fn 44 (.cons (.ptr 0 0 0 0) .nil) .nil) .nil)), (.cons (.bcells 0 false 1 (.cons (.ptr 1 0 0 0) (.cons .bool .nil))) (.cons (.bcells 0 false 1 (.cons (.sl false false (.int .u8)) (.cons .bool .nil))) .nil))⟩
def qs_an : Ann := {}
def qs_c : Code := (match Try.f44.body with | some c => c | none => .skip)
def qs_a : StSh := ⟨.normal, [0], (.cons (.ptr 0 0 0 0) .nil), (.cons (.bcells 0 false 1 (.cons (.ptr 1 0 0 0) (.cons .bool .nil))) (.cons (.bcells 0 false 1 (.cons (.sl false false (.int .u8)) (.cons .bool .nil))) .nil))⟩
def qs_res : List StSh := [⟨.ret, [0], (.cons (.agg (.cons (.int .i64) (.cons (.int .i64) (.cons (.sl false false (.int .u64)) (.cons (.sl false false (.int .u8)) .nil))))) .nil), (.cons (.bcells 0 false 1 (.cons (.ptr 1 0 0 0) (.cons .bool .nil))) (.cons (.bcells 0 false 1 (.cons (.sl false false (.int .u8)) (.cons .bool .nil))) .nil))⟩]
def qs_tbl (n : Nat) : FuncId → List Entry := fun f => bif Nat.beq f 39 then [qf_E n] else bif Nat.beq f 77 then [qi_E n] else bif Nat.beq f 75 then [qv_E n] else []
def qs_loops (n : Nat) : Nat → Option LEntry := fun f => none
theorem qs_run (n : Nat) (m0 : Bool) (m1 : DA) (m1_1 : Bool) : funDS (real _) tab (qs_tbl n) (qs_loops n) qs_an Try.f44 2 qs_a qs_res (m0, (m1, m1_1)) some = qs n m0 m1 m1_1 := by kernel_rfl
def qs_E (n : Nat) : Entry := ⟨qs_a, qs_res, fun d => qs n d.1 d.2.1 d.2.2⟩
theorem qs_ok (n : Nat) : EOK Try.prog 44 (qs_E n) :=
 EOK.ofS zc zb zj (tbl := qs_tbl n) (loops := qs_loops n) (an := qs_an) (old := [some true, some true]) (n := n) (c := qs_c) (fn := Try.f44) (TblOK.cons (AllE.cons (qf_ok n) AllE.nil) (TblOK.cons (AllE.cons (qi_ok n) AllE.nil) (TblOK.cons (AllE.cons (qv_ok n) AllE.nil) TblOK.nil))) (by kernel_rfl) (by kernel_rfl) (by kernel_rfl) (by kernel_rfl) (fun d => by kernel_rfl) LT.nil (fun a => qs_run n a.1 a.2.1 a.2.2)
def qh_h0 : List StSh := [⟨.normal, [0, 1, 5, 6], (.cons (.ptr 0 0 0 0) (.cons (.fn 44 (.cons (.ptr 0 0 0 0) .nil) .nil) (.cons (.msw 2 0) (.cons (.int .i64) .nil)))), (.cons (.bcells 0 false 1 (.cons (.ptr 1 0 0 0) (.cons .bool .nil))) (.cons (.bcells 0 false 1 (.cons (.sl false false (.int .u8)) (.cons .bool .nil))) (.cons (.bts 0 false false true yB) .nil)))⟩]
def qh_o0 : List StSh := [⟨.exit 0, [5], (.cons (.msw 2 0) .nil), (.cons (.bcells 0 false 1 (.cons (.ptr 1 0 0 0) (.cons .bool .nil))) (.cons (.bcells 0 false 1 (.cons (.sl false false (.int .u8)) (.cons .bool .nil))) (.cons (.bts 0 false false true yB) .nil)))⟩]
def qh_L0 (n : Nat) : LEntry := ⟨qh_h0, qh_o0, qh_W0 n⟩
def qh_res : List StSh := [⟨.ret, [0], (.cons (.sl false true yB) .nil), (.cons (.bcells 0 false 1 (.cons (.ptr 1 0 0 0) (.cons .bool .nil))) (.cons (.bcells 0 false 1 (.cons (.sl false false (.int .u8)) (.cons .bool .nil))) .nil))⟩]
def qh_tbl (n : Nat) : FuncId → List Entry := fun f => bif Nat.beq f 39 then [qf_E n] else bif Nat.beq f 47 then [qc_E n] else bif Nat.beq f 44 then [qs_E n] else []
def qh_loops (n : Nat) : Nat → Option LEntry := fun f => bif Nat.beq f 0 then some (qh_L0 n) else none
theorem qh_r0 (n : Nat) (n_6 : Int) (m0 : Bool) (m1 : DA) (m1_1 : Bool) (m2 : DE) : roundK (real _) tab (qh_tbl n) (qh_loops n) qh_an [some true, some true] qh_l0 0 [0, 1, 5, 6] qh_h0 qh_o0 (n_6, (m0, ((m1, m1_1), m2))) some = qh_B0 n n_6 m0 m1 m1_1 m2 := by kernel_rfl
theorem qh_f0 (n : Nat) : LoopFact tab (qh_tbl n) (qh_loops n) qh_an [some true, some true] n 0 qh_l0 (qh_L0 n) := ⟨[0, 1, 5, 6], (fun s => qh_B0 n s.1 s.2.1 s.2.2.1.1 s.2.2.1.2 s.2.2.2), by kernel_rfl, by kernel_rfl, fun s => rfl, fun s => qh_r0 n s.1 s.2.1 s.2.2.1.1 s.2.2.1.2 s.2.2.2⟩
theorem qh_run (n : Nat) (m0 : Bool) (m1 : DA) (m1_1 : Bool) : funDS (real _) tab (qh_tbl n) (qh_loops n) qh_an Try.f43 2 qh_a qh_res (m0, (m1, m1_1)) some = qh n m0 m1 m1_1 := by kernel_rfl
def qh_E (n : Nat) : Entry := ⟨qh_a, qh_res, fun d => qh n d.1 d.2.1 d.2.2⟩
theorem qh_ok (n : Nat) : EOK Try.prog 43 (qh_E n) :=
 EOK.ofS zc zb zj (tbl := qh_tbl n) (loops := qh_loops n) (an := qh_an) (old := [some true, some true]) (n := n) (c := qh_c) (fn := Try.f43) (TblOK.cons (AllE.cons (qf_ok n) AllE.nil) (TblOK.cons (AllE.cons (qc_ok n) AllE.nil) (TblOK.cons (AllE.cons (qs_ok n) AllE.nil) TblOK.nil))) (by kernel_rfl) (by kernel_rfl) (by kernel_rfl) (by kernel_rfl) (fun d => by kernel_rfl) (LT.cons (by kernel_rfl) (qh_f0 n) LT.nil) (fun a => qh_run n a.1 a.2.1 a.2.2)
def qa_an : Ann := { live := [(0, [0, 1, 5, 6])], boxed := [(1, 0), (5, 4)] }
def qa_c : Code := (match Try.f45.body with | some c => c | none => .skip)
def qa_l0 : Code := (match assoc 0 (loopsIn qa_c 0) with | some c => c | none => .skip)
def qa_a : StSh := ⟨.normal, [0, 1], (.cons (.ptr 0 0 0 0) (.cons (.fn 46 (.cons (.ptr 0 0 0 0) .nil) .nil) .nil)), (.cons (.bcells 0 false 1 (.cons (.ptr 1 0 0 0) (.cons .bool .nil))) (.cons (.bcells 0 false 1 (.cons (.sl false false (.int .u8)) (.cons .bool .nil))) .nil))⟩
def qq_an : Ann := {}
def qq_c : Code := (match Try.f46.body with | some c => c | none => .skip)
def qq_a : StSh := ⟨.normal, [0], (.cons (.ptr 0 0 0 0) .nil), (.cons (.bcells 0 false 1 (.cons (.ptr 1 0 0 0) (.cons .bool .nil))) (.cons (.bcells 0 false 1 (.cons (.sl false false (.int .u8)) (.cons .bool .nil))) .nil))⟩
def qq_res : List StSh := [⟨.ret, [0], (.cons (.agg (.cons (.int .i64) (.cons (.int .u64) (.cons .bool .nil)))) .nil), (.cons (.bcells 0 false 1 (.cons (.ptr 1 0 0 0) (.cons .bool .nil))) (.cons (.bcells 0 false 1 (.cons (.sl false false (.int .u8)) (.cons .bool .nil))) .nil))⟩]
def qq_tbl (n : Nat) : FuncId → List Entry := fun f => bif Nat.beq f 39 then [qf_E n] else bif Nat.beq f 40 then [qr_E n] else []
def qq_loops (n : Nat) : Nat → Option LEntry := fun f => none
theorem qq_run (n : Nat) (m0 : Bool) (m1 : DA) (m1_1 : Bool) : funDS (real _) tab (qq_tbl n) (qq_loops n) qq_an Try.f46 2 qq_a qq_res (m0, (m1, m1_1)) some = qq n m0 m1 m1_1 := by kernel_rfl
def qq_E (n : Nat) : Entry := ⟨qq_a, qq_res, fun d => qq n d.1 d.2.1 d.2.2⟩
theorem qq_ok (n : Nat) : EOK Try.prog 46 (qq_E n) :=
 EOK.ofS zc zb zj (tbl := qq_tbl n) (loops := qq_loops n) (an := qq_an) (old := [some true, some true]) (n := n) (c := qq_c) (fn := Try.f46) (TblOK.cons (AllE.cons (qf_ok n) AllE.nil) (TblOK.cons (AllE.cons (qr_ok n) AllE.nil) TblOK.nil)) (by kernel_rfl) (by kernel_rfl) (by kernel_rfl) (by kernel_rfl) (fun d => by kernel_rfl) LT.nil (fun a => qq_run n a.1 a.2.1 a.2.2)
def qa_h0 : List StSh := [⟨.normal, [0, 1, 5, 6], (.cons (.ptr 0 0 0 0) (.cons (.fn 46 (.cons (.ptr 0 0 0 0) .nil) .nil) (.cons (.msw 2 0) (.cons (.int .i64) .nil)))), (.cons (.bcells 0 false 1 (.cons (.ptr 1 0 0 0) (.cons .bool .nil))) (.cons (.bcells 0 false 1 (.cons (.sl false false (.int .u8)) (.cons .bool .nil))) (.cons (.bts 0 false false true yC) .nil)))⟩]
def qa_o0 : List StSh := [⟨.exit 0, [5], (.cons (.msw 2 0) .nil), (.cons (.bcells 0 false 1 (.cons (.ptr 1 0 0 0) (.cons .bool .nil))) (.cons (.bcells 0 false 1 (.cons (.sl false false (.int .u8)) (.cons .bool .nil))) (.cons (.bts 0 false false true yC) .nil)))⟩]
def qa_L0 (n : Nat) : LEntry := ⟨qa_h0, qa_o0, qa_W0 n⟩
def qa_res : List StSh := [⟨.ret, [0], (.cons (.sl false true yC) .nil), (.cons (.bcells 0 false 1 (.cons (.ptr 1 0 0 0) (.cons .bool .nil))) (.cons (.bcells 0 false 1 (.cons (.sl false false (.int .u8)) (.cons .bool .nil))) .nil))⟩]
def qa_tbl (n : Nat) : FuncId → List Entry := fun f => bif Nat.beq f 39 then [qf_E n] else bif Nat.beq f 47 then [qc_E n] else bif Nat.beq f 46 then [qq_E n] else []
def qa_loops (n : Nat) : Nat → Option LEntry := fun f => bif Nat.beq f 0 then some (qa_L0 n) else none
theorem qa_r0 (n : Nat) (n_6 : Int) (m0 : Bool) (m1 : DA) (m1_1 : Bool) (m2 : DB) : roundK (real _) tab (qa_tbl n) (qa_loops n) qa_an [some true, some true] qa_l0 0 [0, 1, 5, 6] qa_h0 qa_o0 (n_6, (m0, ((m1, m1_1), m2))) some = qa_B0 n n_6 m0 m1 m1_1 m2 := by kernel_rfl
theorem qa_f0 (n : Nat) : LoopFact tab (qa_tbl n) (qa_loops n) qa_an [some true, some true] n 0 qa_l0 (qa_L0 n) := ⟨[0, 1, 5, 6], (fun s => qa_B0 n s.1 s.2.1 s.2.2.1.1 s.2.2.1.2 s.2.2.2), by kernel_rfl, by kernel_rfl, fun s => rfl, fun s => qa_r0 n s.1 s.2.1 s.2.2.1.1 s.2.2.1.2 s.2.2.2⟩
theorem qa_run (n : Nat) (m0 : Bool) (m1 : DA) (m1_1 : Bool) : funDS (real _) tab (qa_tbl n) (qa_loops n) qa_an Try.f45 2 qa_a qa_res (m0, (m1, m1_1)) some = qa n m0 m1 m1_1 := by kernel_rfl
def qa_E (n : Nat) : Entry := ⟨qa_a, qa_res, fun d => qa n d.1 d.2.1 d.2.2⟩
theorem qa_ok (n : Nat) : EOK Try.prog 45 (qa_E n) :=
 EOK.ofS zc zb zj (tbl := qa_tbl n) (loops := qa_loops n) (an := qa_an) (old := [some true, some true]) (n := n) (c := qa_c) (fn := Try.f45) (TblOK.cons (AllE.cons (qf_ok n) AllE.nil) (TblOK.cons (AllE.cons (qc_ok n) AllE.nil) (TblOK.cons (AllE.cons (qq_ok n) AllE.nil) TblOK.nil))) (by kernel_rfl) (by kernel_rfl) (by kernel_rfl) (by kernel_rfl) (fun d => by kernel_rfl) (LT.cons (by kernel_rfl) (qa_f0 n) LT.nil) (fun a => qa_run n a.1 a.2.1 a.2.2)
def qu_an : Ann := {}
def qu_c : Code := (match Try.f48.body with | some c => c | none => .skip)
def qu_a : StSh := ⟨.normal, [0], (.cons (.ptr 0 0 0 0) .nil), (.cons (.bcells 0 false 1 (.cons (.sl false false (.int .u8)) (.cons .bool .nil))) .nil)⟩
def qu_res : List StSh := [⟨.ret, [0], (.cons (.int .i64) .nil), (.cons (.bcells 0 false 1 (.cons (.sl false false (.int .u8)) (.cons .bool .nil))) .nil)⟩]
def qu_tbl (n : Nat) : FuncId → List Entry := fun f => bif Nat.beq f 55 then [qab_E n] else []
def qu_loops (n : Nat) : Nat → Option LEntry := fun f => none
theorem qu_run (n : Nat) (m0 : DA) (m0_1 : Bool) : funDS (real _) tab (qu_tbl n) (qu_loops n) qu_an Try.f48 1 qu_a qu_res (m0, m0_1) some = qu n m0 m0_1 := by kernel_rfl
def qu_E (n : Nat) : Entry := ⟨qu_a, qu_res, fun d => qu n d.1 d.2⟩
theorem qu_ok (n : Nat) : EOK Try.prog 48 (qu_E n) :=
 EOK.ofS zc zb zj (tbl := qu_tbl n) (loops := qu_loops n) (an := qu_an) (old := [some true]) (n := n) (c := qu_c) (fn := Try.f48) (TblOK.cons (AllE.cons (qab_ok n) AllE.nil) TblOK.nil) (by kernel_rfl) (by kernel_rfl) (by kernel_rfl) (by kernel_rfl) (fun d => by kernel_rfl) LT.nil (fun a => qu_run n a.1 a.2)
def qag_res : List StSh := [⟨.ret, [0], (.cons (.tup (.cons (.agg (.cons (.sl false true yA) (.cons (.sl false true yB) (.cons (.sl false true yC) (.cons (.int .i64) (.cons (.int .i64) (.cons (.int .i64) (.cons (.int .u64) .nil)))))))) (.cons (.int .u32) (.cons (.int .i64) .nil)))) .nil), .nil⟩]
def qag_tbl (n : Nat) : FuncId → List Entry := fun f => bif Nat.beq f 38 then [qae_E n] else bif Nat.beq f 39 then [qj_E n, qf_E n] else bif Nat.beq f 40 then [qr_E n] else bif Nat.beq f 41 then [qb_E n] else bif Nat.beq f 43 then [qh_E n] else bif Nat.beq f 45 then [qa_E n] else bif Nat.beq f 47 then [qc_E n] else bif Nat.beq f 48 then [qu_E n] else []
def qag_loops (n : Nat) : Nat → Option LEntry := fun f => none
theorem qag_run (n : Nat) (b_0 : DA) : funDS (real _) tab (qag_tbl n) (qag_loops n) qag_an Try.f15 0 qag_a qag_res b_0 some = qag n b_0 := by kernel_rfl
def qag_E (n : Nat) : Entry := ⟨qag_a, qag_res, fun d => qag n d⟩
theorem qag_ok (n : Nat) : EOK Try.prog 15 (qag_E n) :=
 EOK.ofS zc zb zj (tbl := qag_tbl n) (loops := qag_loops n) (an := qag_an) (old := []) (n := n) (c := qag_c) (fn := Try.f15) (TblOK.cons (AllE.cons (qae_ok n) AllE.nil) (TblOK.cons (AllE.cons (qj_ok n) (AllE.cons (qf_ok n) AllE.nil)) (TblOK.cons (AllE.cons (qr_ok n) AllE.nil) (TblOK.cons (AllE.cons (qb_ok n) AllE.nil) (TblOK.cons (AllE.cons (qh_ok n) AllE.nil) (TblOK.cons (AllE.cons (qa_ok n) AllE.nil) (TblOK.cons (AllE.cons (qc_ok n) AllE.nil) (TblOK.cons (AllE.cons (qu_ok n) AllE.nil) TblOK.nil)))))))) (by kernel_rfl) (by kernel_rfl) (by kernel_rfl) (by kernel_rfl) (fun d => by kernel_rfl) LT.nil (fun a => qag_run n a)
def qy_res : List StSh := [⟨.ret, [0], (.cons .bool .nil), .nil⟩]
def qy_tbl (n : Nat) : FuncId → List Entry := fun f => bif Nat.beq f 12 then [qad_E n] else bif Nat.beq f 15 then [qag_E n] else []
def qy_loops (n : Nat) : Nat → Option LEntry := fun f => none
theorem qy_run (n : Nat) : funDS (real _) tab (qy_tbl n) (qy_loops n) qy_an Try.f11 0 qy_a qy_res () some = qy n := by kernel_rfl
def qy_E (n : Nat) : Entry := ⟨qy_a, qy_res, fun d => qy n⟩
theorem qy_ok (n : Nat) : EOK Try.prog 11 (qy_E n) :=
 EOK.ofS zc zb zj (tbl := qy_tbl n) (loops := qy_loops n) (an := qy_an) (old := []) (n := n) (c := qy_c) (fn := Try.f11) (TblOK.cons (AllE.cons (qad_ok n) AllE.nil) (TblOK.cons (AllE.cons (qag_ok n) AllE.nil) TblOK.nil)) (by kernel_rfl) (by kernel_rfl) (by kernel_rfl) (by kernel_rfl) (fun d => by kernel_rfl) LT.nil (fun a => qy_run n)
def qah_an : Ann := { live := [(0, [2, 3, 7, 8, 9, 10, 11]), (2, [2, 3, 7, 8, 9, 10, 13]), (4, [2, 3, 7, 8, 9, 10, 15])], boxed := [(0, 1), (1, 0), (4, 4), (5, 15), (6, 0), (6, 1), (6, 2), (11, 10), (11, 15), (11, 20), (16, 10), (16, 15), (17, 8), (17, 11), (25, 10), (26, 8), (27, 8), (28, 8), (30, 2), (30, 4), (30, 6), (31, 2), (31, 4), (31, 6)], raw := [(26, 6), (27, 6), (28, 6), (32, 1)] }
def qah_c : Code := (match Try.f14.body with | some c => c | none => .skip)
def qah_l0 : Code := (match assoc 0 (loopsIn qah_c 0) with | some c => c | none => .skip)
def qah_l2 : Code := (match assoc 2 (loopsIn qah_c 0) with | some c => c | none => .skip)
def qah_l4 : Code := (match assoc 4 (loopsIn qah_c 0) with | some c => c | none => .skip)
def qah_a : StSh := ⟨.normal, [0, 1, 2], (.cons (.agg (.cons (.sl true true yA) (.cons (.sl true true yB) (.cons (.sl true true yC) (.cons (.int .i64) (.cons (.int .i64) (.cons (.int .i64) (.cons (.int .u64) .nil)))))))) (.cons (.int .u32) (.cons .bool .nil))), .nil⟩
def qaj_an : Ann := { live := [(0, [0, 1, 5, 6])], boxed := [(1, 0), (5, 5)] }
def qaj_c : Code := (match Try.f34.body with | some c => c | none => .skip)
def qaj_l0 : Code := (match assoc 0 (loopsIn qaj_c 0) with | some c => c | none => .skip)
def qaj_a : StSh := ⟨.normal, [0, 1], (.cons (.int .u64) (.cons (.int .i64) .nil)), .nil⟩
def qaj_h0 : List StSh := [⟨.normal, [0, 1, 5, 6], (.cons (.int .u64) (.cons (.int .i64) (.cons (.msw 0 0) (.cons (.int .i64) .nil)))), (.cons (.bts 0 false false false (.int .u8)) .nil)⟩]
def qaj_o0 : List StSh := [⟨.exit 0, [5], (.cons (.msw 0 0) .nil), (.cons (.bts 0 false false false (.int .u8)) .nil)⟩]
def qaj_L0 (n : Nat) : LEntry := ⟨qaj_h0, qaj_o0, qaj_W0 n⟩
def qaj_res : List StSh := [⟨.ret, [0], (.cons (.sl false false (.int .u8)) .nil), .nil⟩]
def qaj_tbl (n : Nat) : FuncId → List Entry := fun f => []
def qaj_loops (n : Nat) : Nat → Option LEntry := fun f => bif Nat.beq f 0 then some (qaj_L0 n) else none
theorem qaj_r0 (n : Nat) (v_0 : Int) (n_1 : Int) (k_6 : Int) (m0 : DA) : roundK (real _) tab (qaj_tbl n) (qaj_loops n) qaj_an [] qaj_l0 0 [0, 1, 5, 6] qaj_h0 qaj_o0 ((v_0, (n_1, k_6)), m0) some = qaj_B0 n v_0 n_1 k_6 m0 := by kernel_rfl
theorem qaj_f0 (n : Nat) : LoopFact tab (qaj_tbl n) (qaj_loops n) qaj_an [] n 0 qaj_l0 (qaj_L0 n) := ⟨[0, 1, 5, 6], (fun s => qaj_B0 n s.1.1 s.1.2.1 s.1.2.2 s.2), by kernel_rfl, by kernel_rfl, fun s => rfl, fun s => qaj_r0 n s.1.1 s.1.2.1 s.1.2.2 s.2⟩
theorem qaj_run (n : Nat) (v_0 : Int) (n_1 : Int) : funDS (real _) tab (qaj_tbl n) (qaj_loops n) qaj_an Try.f34 0 qaj_a qaj_res (v_0, n_1) some = qaj n v_0 n_1 := by kernel_rfl
def qaj_E (n : Nat) : Entry := ⟨qaj_a, qaj_res, fun d => qaj n d.1 d.2⟩
theorem qaj_ok (n : Nat) : EOK Try.prog 34 (qaj_E n) :=
 EOK.ofS zc zb zj (tbl := qaj_tbl n) (loops := qaj_loops n) (an := qaj_an) (old := []) (n := n) (c := qaj_c) (fn := Try.f34) TblOK.nil (by kernel_rfl) (by kernel_rfl) (by kernel_rfl) (by kernel_rfl) (fun d => by kernel_rfl) (LT.cons (by kernel_rfl) (qaj_f0 n) LT.nil) (fun a => qaj_run n a.1 a.2)
def qaf_an : Ann := {}
def qaf_c : Code := (match Try.f36.body with | some c => c | none => .skip)
def qaf_a : StSh := ⟨.normal, [0], (.cons (.int .i64) .nil), .nil⟩
def qaf_res : List StSh := [⟨.ret, [0], (.cons (.int .u64) .nil), .nil⟩]
def qaf_tbl (n : Nat) : FuncId → List Entry := fun f => []
def qaf_loops (n : Nat) : Nat → Option LEntry := fun f => none
theorem qaf_run (n : Nat) (n_0 : Int) : funDS (real _) tab (qaf_tbl n) (qaf_loops n) qaf_an Try.f36 0 qaf_a qaf_res n_0 some = qaf n n_0 := by kernel_rfl
def qaf_E (n : Nat) : Entry := ⟨qaf_a, qaf_res, fun d => qaf n d⟩
theorem qaf_ok (n : Nat) : EOK Try.prog 36 (qaf_E n) :=
 EOK.ofS zc zb zj (tbl := qaf_tbl n) (loops := qaf_loops n) (an := qaf_an) (old := []) (n := n) (c := qaf_c) (fn := Try.f36) TblOK.nil (by kernel_rfl) (by kernel_rfl) (by kernel_rfl) (by kernel_rfl) (fun d => by kernel_rfl) LT.nil (fun a => qaf_run n a)
def qam_an : Ann := { live := [(0, [0, 1, 5, 6])], boxed := [(0, 0), (1, 0), (6, 6), (7, 6)] }
def qam_c : Code := (match Try.f35.body with | some c => c | none => .skip)
def qam_l0 : Code := (match assoc 0 (loopsIn qam_c 0) with | some c => c | none => .skip)
def qam_a : StSh := ⟨.normal, [0, 1], (.cons .bool (.cons (.sl true false (.int .u64)) .nil)), .nil⟩
def qat_an : Ann := { boxed := [(3, 4)] }
def qat_c : Code := (match Try.f71.body with | some c => c | none => .skip)
def qat_a : StSh := ⟨.normal, [0], (.cons (.int .u64) .nil), .nil⟩
def qat_res : List StSh := [⟨.ret, [0], (.cons (.sl false false (.int .u8)) .nil), .nil⟩]
def qat_Ed (n d : Nat) : Entry := ⟨qat_a, qat_res, qat_D n d⟩
def qat_tbl (n d : Nat) : FuncId → List Entry := fun f => bif Nat.beq f 71 then [qat_Ed n d] else []
def qat_loops (n : Nat) : Nat → Option LEntry := fun f => none
theorem qat_run (n d : Nat) (v_0 : Int) : funDS (real _) tab (qat_tbl n d) (qat_loops n) qat_an Try.f71 0 qat_a qat_res v_0 some = qat_D n (d + 1) v_0 := by kernel_rfl
def qat_E (n : Nat) : Entry := ⟨qat_a, qat_res, fun d => qat n d⟩
theorem qat_okd (n : Nat) (d : Nat) : EOK Try.prog 71 (qat_Ed n d) :=
 Nat.rec (EOK.none (by kernel_rfl) fun _ => rfl) (fun d ih => EOK.ofS zc zb zj (tbl := qat_tbl n d) (loops := qat_loops n) (an := qat_an) (old := []) (n := n) (c := qat_c) (fn := Try.f71) (TblOK.cons (AllE.cons ih AllE.nil) TblOK.nil) (by kernel_rfl) (by kernel_rfl) (by kernel_rfl) (by kernel_rfl) (fun d => by kernel_rfl) LT.nil (fun a => qat_run n d a)) d
theorem qat_ok (n : Nat) : EOK Try.prog 71 (qat_E n) := qat_okd n n
def qam_h0 : List StSh := [⟨.normal, [0, 1, 5, 6], (.cons .bool (.cons (.sl true false (.int .u64)) (.cons (.msw 0 0) (.cons (.int .i64) .nil)))), (.cons (.bts 0 false false false (.int .u8)) .nil)⟩]
def qam_o0 : List StSh := [⟨.exit 0, [5], (.cons (.msw 0 0) .nil), (.cons (.bts 0 false false false (.int .u8)) .nil)⟩]
def qam_L0 (n : Nat) : LEntry := ⟨qam_h0, qam_o0, qam_W0 n⟩
def qam_res : List StSh := [⟨.ret, [0], (.cons (.msw 0 0) .nil), (.cons (.bts 0 false false false (.int .u8)) .nil)⟩]
def qam_tbl (n : Nat) : FuncId → List Entry := fun f => bif Nat.beq f 34 then [qaj_E n] else bif Nat.beq f 71 then [qat_E n] else []
def qam_loops (n : Nat) : Nat → Option LEntry := fun f => bif Nat.beq f 0 then some (qam_L0 n) else none
theorem qam_r0 (n : Nat) (old_0 : Bool) (l_1 : DA) (i_6 : Int) (m0 : DA) : roundK (real _) tab (qam_tbl n) (qam_loops n) qam_an [] qam_l0 0 [0, 1, 5, 6] qam_h0 qam_o0 ((old_0, (l_1, i_6)), m0) some = qam_B0 n old_0 l_1 i_6 m0 := by kernel_rfl
theorem qam_f0 (n : Nat) : LoopFact tab (qam_tbl n) (qam_loops n) qam_an [] n 0 qam_l0 (qam_L0 n) := ⟨[0, 1, 5, 6], (fun s => qam_B0 n s.1.1 s.1.2.1 s.1.2.2 s.2), by kernel_rfl, by kernel_rfl, fun s => rfl, fun s => qam_r0 n s.1.1 s.1.2.1 s.1.2.2 s.2⟩
theorem qam_run (n : Nat) (old_0 : Bool) (l_1 : DA) : funD (real _) tab (qam_tbl n) (qam_loops n) qam_an Try.f35 qam_a qam_res (old_0, l_1) some = qam n old_0 l_1 := by kernel_rfl
def qam_E (n : Nat) : Entry := ⟨qam_a, qam_res, fun d => qam n d.1 d.2⟩
theorem qam_ok (n : Nat) : EOK Try.prog 35 (qam_E n) :=
 EOK.of zc zb zj (tbl := qam_tbl n) (loops := qam_loops n) (an := qam_an) (old := []) (n := n) (c := qam_c) (fn := Try.f35) (TblOK.cons (AllE.cons (qaj_ok n) AllE.nil) (TblOK.cons (AllE.cons (qat_ok n) AllE.nil) TblOK.nil)) (by kernel_rfl) (by kernel_rfl) (by kernel_rfl) (by kernel_rfl) (fun d => by kernel_rfl) (LT.cons (by kernel_rfl) (qam_f0 n) LT.nil) (fun a => qam_run n a.1 a.2)
def qao_an : Ann := { boxed := [(1, 4)] }
def qao_c : Code := (match Try.f37.body with | some c => c | none => .skip)
def qao_a : StSh := ⟨.normal, [0, 1], (.cons .bool (.cons (.sl true false (.int .u64)) .nil)), .nil⟩
def qao_res : List StSh := [⟨.ret, [0], (.cons (.sl false false (.int .u8)) .nil), .nil⟩]
def qao_tbl (n : Nat) : FuncId → List Entry := fun f => bif Nat.beq f 35 then [qam_E n] else []
def qao_loops (n : Nat) : Nat → Option LEntry := fun f => none
theorem qao_run (n : Nat) (old_0 : Bool) (l_1 : DA) : funDS (real _) tab (qao_tbl n) (qao_loops n) qao_an Try.f37 0 qao_a qao_res (old_0, l_1) some = qao n old_0 l_1 := by kernel_rfl
def qao_E (n : Nat) : Entry := ⟨qao_a, qao_res, fun d => qao n d.1 d.2⟩
theorem qao_ok (n : Nat) : EOK Try.prog 37 (qao_E n) :=
 EOK.ofS zc zb zj (tbl := qao_tbl n) (loops := qao_loops n) (an := qao_an) (old := []) (n := n) (c := qao_c) (fn := Try.f37) (TblOK.cons (AllE.cons (qam_ok n) AllE.nil) TblOK.nil) (by kernel_rfl) (by kernel_rfl) (by kernel_rfl) (by kernel_rfl) (fun d => by kernel_rfl) LT.nil (fun a => qao_run n a.1 a.2)
def qah_h0 : List StSh := [⟨.normal, [2, 3, 7, 8, 9, 10, 11], (.cons .bool (.cons (.ptr 0 0 0 0) (.cons (.msw 1 0) (.cons (.msw 2 0) (.cons (.msw 3 0) (.cons (.msw 4 0) (.cons (.int .i64) .nil))))))), (.cons (.bcells 0 false 1 (.cons (.sl true true yA) (.cons (.sl true true yB) (.cons (.sl true true yC) (.cons (.int .i64) (.cons (.int .i64) (.cons (.int .i64) (.cons (.int .u64) .nil)))))))) (.cons (.bts 0 false false false (.int .u8)) (.cons (.bts 0 false false false (.int .u8)) (.cons (.bts 0 false false false (.int .u8)) (.cons (.bts 0 false false false (.int .u8)) .nil)))))⟩]
def qah_o0 : List StSh := [⟨.exit 0, [2, 3, 7, 8, 9, 10], (.cons .bool (.cons (.ptr 0 0 0 0) (.cons (.msw 1 0) (.cons (.msw 2 0) (.cons (.msw 3 0) (.cons (.msw 4 0) .nil)))))), (.cons (.bcells 0 false 1 (.cons (.sl true true yA) (.cons (.sl true true yB) (.cons (.sl true true yC) (.cons (.int .i64) (.cons (.int .i64) (.cons (.int .i64) (.cons (.int .u64) .nil)))))))) (.cons (.bts 0 false false false (.int .u8)) (.cons (.bts 0 false false false (.int .u8)) (.cons (.bts 0 false false false (.int .u8)) (.cons (.bts 0 false false false (.int .u8)) .nil)))))⟩]
def qah_L0 (n : Nat) : LEntry := ⟨qah_h0, qah_o0, qah_W0 n⟩
def qah_h2 : List StSh := [⟨.normal, [2, 3, 7, 8, 9, 10, 13], (.cons .bool (.cons (.ptr 0 0 0 0) (.cons (.msw 1 0) (.cons (.msw 2 0) (.cons (.msw 3 0) (.cons (.msw 4 0) (.cons (.int .i64) .nil))))))), (.cons (.bcells 0 false 1 (.cons (.sl true true yA) (.cons (.sl true true yB) (.cons (.sl true true yC) (.cons (.int .i64) (.cons (.int .i64) (.cons (.int .i64) (.cons (.int .u64) .nil)))))))) (.cons (.bts 0 false false false (.int .u8)) (.cons (.bts 0 false false false (.int .u8)) (.cons (.bts 0 false false false (.int .u8)) (.cons (.bts 0 false false false (.int .u8)) .nil)))))⟩]
def qah_o2 : List StSh := [⟨.exit 2, [2, 3, 7, 8, 9, 10], (.cons .bool (.cons (.ptr 0 0 0 0) (.cons (.msw 1 0) (.cons (.msw 2 0) (.cons (.msw 3 0) (.cons (.msw 4 0) .nil)))))), (.cons (.bcells 0 false 1 (.cons (.sl true true yA) (.cons (.sl true true yB) (.cons (.sl true true yC) (.cons (.int .i64) (.cons (.int .i64) (.cons (.int .i64) (.cons (.int .u64) .nil)))))))) (.cons (.bts 0 false false false (.int .u8)) (.cons (.bts 0 false false false (.int .u8)) (.cons (.bts 0 false false false (.int .u8)) (.cons (.bts 0 false false false (.int .u8)) .nil)))))⟩]
def qah_L2 (n : Nat) : LEntry := ⟨qah_h2, qah_o2, qah_W2 n⟩
def qah_h4 : List StSh := [⟨.normal, [2, 3, 7, 8, 9, 10, 15], (.cons .bool (.cons (.ptr 0 0 0 0) (.cons (.msw 1 0) (.cons (.msw 2 0) (.cons (.msw 3 0) (.cons (.msw 4 0) (.cons (.int .i64) .nil))))))), (.cons (.bcells 0 false 1 (.cons (.sl true true yA) (.cons (.sl true true yB) (.cons (.sl true true yC) (.cons (.int .i64) (.cons (.int .i64) (.cons (.int .i64) (.cons (.int .u64) .nil)))))))) (.cons (.bts 0 false false false (.int .u8)) (.cons (.bts 0 false false false (.int .u8)) (.cons (.bts 0 false false false (.int .u8)) (.cons (.bts 0 false false false (.int .u8)) .nil)))))⟩]
def qah_o4 : List StSh := [⟨.exit 4, [2, 3, 7, 8, 9, 10], (.cons .bool (.cons (.ptr 0 0 0 0) (.cons (.msw 1 0) (.cons (.msw 2 0) (.cons (.msw 3 0) (.cons (.msw 4 0) .nil)))))), (.cons (.bcells 0 false 1 (.cons (.sl true true yA) (.cons (.sl true true yB) (.cons (.sl true true yC) (.cons (.int .i64) (.cons (.int .i64) (.cons (.int .i64) (.cons (.int .u64) .nil)))))))) (.cons (.bts 0 false false false (.int .u8)) (.cons (.bts 0 false false false (.int .u8)) (.cons (.bts 0 false false false (.int .u8)) (.cons (.bts 0 false false false (.int .u8)) .nil)))))⟩]
def qah_L4 (n : Nat) : LEntry := ⟨qah_h4, qah_o4, qah_W4 n⟩
def qaq_an : Ann := { boxed := [(0, 0), (1, 0), (1, 2), (1, 7)] }
def qaq_c : Code := (match Try.f18.body with | some c => c | none => .skip)
def qaq_a : StSh := ⟨.normal, [0], (.cons (.sl true false (.int .u8)) .nil), .nil⟩
def qav_an : Ann := { live := [(0, [0, 3, 4]), (2, [0, 3, 4, 5])] }
def qav_c : Code := (match Try.f52.body with | some c => c | none => .skip)
def qav_l0 : Code := (match assoc 0 (loopsIn qav_c 0) with | some c => c | none => .skip)
def qav_l2 : Code := (match assoc 2 (loopsIn qav_c 0) with | some c => c | none => .skip)
def qav_a : StSh := ⟨.normal, [0], (.cons (.sl true false (.int .u8)) .nil), .nil⟩
def qav_h2 : List StSh := [⟨.normal, [0, 3, 4, 5], (.cons (.sl true false (.int .u8)) (.cons (.int .u32) (.cons (.int .i64) (.cons (.int .i64) .nil)))), .nil⟩]
def qav_o2 : List StSh := [⟨.exit 2, [0, 3, 4], (.cons (.sl true false (.int .u8)) (.cons (.int .u32) (.cons (.int .i64) .nil))), .nil⟩]
def qav_L2 (n : Nat) : LEntry := ⟨qav_h2, qav_o2, qav_W2 n⟩
def qav_h0 : List StSh := [⟨.normal, [0, 3, 4], (.cons (.sl true false (.int .u8)) (.cons (.int .u32) (.cons (.int .i64) .nil))), .nil⟩]
def qav_o0 : List StSh := [⟨.exit 0, [3], (.cons (.int .u32) .nil), .nil⟩]
def qav_L0 (n : Nat) : LEntry := ⟨qav_h0, qav_o0, qav_W0 n⟩
def qav_res : List StSh := [⟨.ret, [0], (.cons (.int .u32) .nil), .nil⟩]
def qav_tbl (n : Nat) : FuncId → List Entry := fun f => []
def qav_loops (n : Nat) : Nat → Option LEntry := fun f => bif Nat.beq f 2 then some (qav_L2 n) else bif Nat.beq f 0 then some (qav_L0 n) else none
theorem qav_r2 (n : Nat) (b_0 : DA) (n_3 : Int) (i_4 : Int) (k_5 : Int) : roundK (real _) tab (qav_tbl n) (qav_loops n) qav_an [] qav_l2 2 [0, 3, 4, 5] qav_h2 qav_o2 (b_0, (n_3, (i_4, k_5))) some = qav_B2 n b_0 n_3 i_4 k_5 := by kernel_rfl
theorem qav_f2 (n : Nat) : LoopFact tab (qav_tbl n) (qav_loops n) qav_an [] n 2 qav_l2 (qav_L2 n) := ⟨[0, 3, 4, 5], (fun s => qav_B2 n s.1 s.2.1 s.2.2.1 s.2.2.2), by kernel_rfl, by kernel_rfl, fun s => rfl, fun s => qav_r2 n s.1 s.2.1 s.2.2.1 s.2.2.2⟩
theorem qav_r0 (n : Nat) (b_0 : DA) (n_3 : Int) (i_4 : Int) : roundK (real _) tab (qav_tbl n) (qav_loops n) qav_an [] qav_l0 0 [0, 3, 4] qav_h0 qav_o0 (b_0, (n_3, i_4)) some = qav_B0 n b_0 n_3 i_4 := by kernel_rfl
theorem qav_f0 (n : Nat) : LoopFact tab (qav_tbl n) (qav_loops n) qav_an [] n 0 qav_l0 (qav_L0 n) := ⟨[0, 3, 4], (fun s => qav_B0 n s.1 s.2.1 s.2.2), by kernel_rfl, by kernel_rfl, fun s => rfl, fun s => qav_r0 n s.1 s.2.1 s.2.2⟩
theorem qav_run (n : Nat) (b_0 : DA) : funDS (real _) tab (qav_tbl n) (qav_loops n) qav_an Try.f52 0 qav_a qav_res b_0 some = qav n b_0 := by kernel_rfl
def qav_E (n : Nat) : Entry := ⟨qav_a, qav_res, fun d => qav n d⟩
theorem qav_ok (n : Nat) : EOK Try.prog 52 (qav_E n) :=
 EOK.ofS zc zb zj (tbl := qav_tbl n) (loops := qav_loops n) (an := qav_an) (old := []) (n := n) (c := qav_c) (fn := Try.f52) TblOK.nil (by kernel_rfl) (by kernel_rfl) (by kernel_rfl) (by kernel_rfl) (fun d => by kernel_rfl) (LT.cons (by kernel_rfl) (qav_f2 n) (LT.cons (by kernel_rfl) (qav_f0 n) LT.nil)) (fun a => qav_run n a)
def qaq_res : List StSh := [⟨.ret, [0], (.cons (.msw 0 0) .nil), (.cons (.bts 0 false false false (.int .u8)) .nil)⟩]
def qaq_tbl (n : Nat) : FuncId → List Entry := fun f => bif Nat.beq f 52 then [qav_E n] else bif Nat.beq f 34 then [qaj_E n] else []
def qaq_loops (n : Nat) : Nat → Option LEntry := fun f => none
theorem qaq_run (n : Nat) (b_0 : DA) : funD (real _) tab (qaq_tbl n) (qaq_loops n) qaq_an Try.f18 qaq_a qaq_res b_0 some = qaq n b_0 := by kernel_rfl
def qaq_E (n : Nat) : Entry := ⟨qaq_a, qaq_res, fun d => qaq n d⟩
theorem qaq_ok (n : Nat) : EOK Try.prog 18 (qaq_E n) :=
 EOK.of zc zb zj (tbl := qaq_tbl n) (loops := qaq_loops n) (an := qaq_an) (old := []) (n := n) (c := qaq_c) (fn := Try.f18) (TblOK.cons (AllE.cons (qav_ok n) AllE.nil) (TblOK.cons (AllE.cons (qaj_ok n) AllE.nil) TblOK.nil)) (by kernel_rfl) (by kernel_rfl) (by kernel_rfl) (by kernel_rfl) (fun d => by kernel_rfl) LT.nil (fun a => qaq_run n a)
def qah_res : List StSh := [⟨.ret, [0], (.cons (.msw 0 0) .nil), (.cons (.bts 0 false false false (.int .u8)) .nil)⟩]
def qah_tbl (n : Nat) : FuncId → List Entry := fun f => bif Nat.beq f 34 then [qaj_E n] else bif Nat.beq f 36 then [qaf_E n] else bif Nat.beq f 35 then [qam_E n] else bif Nat.beq f 37 then [qao_E n] else bif Nat.beq f 18 then [qaq_E n] else []
def qah_loops (n : Nat) : Nat → Option LEntry := fun f => bif Nat.beq f 0 then some (qah_L0 n) else bif Nat.beq f 2 then some (qah_L2 n) else bif Nat.beq f 4 then some (qah_L4 n) else none
theorem qah_r0 (n : Nat) (t2 : Bool) (t11 : Int) (m0 : DE) (m0_1 : DE) (m0_2 : DB) (m0_3 : Int) (m0_4 : Int) (m0_5 : Int) (m0_6 : Int) (m1 : DA) (m2 : DA) (m3 : DA) (m4 : DA) : roundK (real _) tab (qah_tbl n) (qah_loops n) qah_an [] qah_l0 0 [2, 3, 7, 8, 9, 10, 11] qah_h0 qah_o0 ((t2, t11), ((m0, (m0_1, (m0_2, (m0_3, (m0_4, (m0_5, m0_6)))))), (m1, (m2, (m3, m4))))) some = qah_B0 n t2 t11 m0 m0_1 m0_2 m0_3 m0_4 m0_5 m0_6 m1 m2 m3 m4 := by kernel_rfl
theorem qah_f0 (n : Nat) : LoopFact tab (qah_tbl n) (qah_loops n) qah_an [] n 0 qah_l0 (qah_L0 n) := ⟨[2, 3, 7, 8, 9, 10, 11], (fun s => qah_B0 n s.1.1 s.1.2 s.2.1.1 s.2.1.2.1 s.2.1.2.2.1 s.2.1.2.2.2.1 s.2.1.2.2.2.2.1 s.2.1.2.2.2.2.2.1 s.2.1.2.2.2.2.2.2 s.2.2.1 s.2.2.2.1 s.2.2.2.2.1 s.2.2.2.2.2), by kernel_rfl, by kernel_rfl, fun s => rfl, fun s => qah_r0 n s.1.1 s.1.2 s.2.1.1 s.2.1.2.1 s.2.1.2.2.1 s.2.1.2.2.2.1 s.2.1.2.2.2.2.1 s.2.1.2.2.2.2.2.1 s.2.1.2.2.2.2.2.2 s.2.2.1 s.2.2.2.1 s.2.2.2.2.1 s.2.2.2.2.2⟩
theorem qah_r2 (n : Nat) (t2 : Bool) (t13 : Int) (m0 : DE) (m0_1 : DE) (m0_2 : DB) (m0_3 : Int) (m0_4 : Int) (m0_5 : Int) (m0_6 : Int) (m1 : DA) (m2 : DA) (m3 : DA) (m4 : DA) : roundK (real _) tab (qah_tbl n) (qah_loops n) qah_an [] qah_l2 2 [2, 3, 7, 8, 9, 10, 13] qah_h2 qah_o2 ((t2, t13), ((m0, (m0_1, (m0_2, (m0_3, (m0_4, (m0_5, m0_6)))))), (m1, (m2, (m3, m4))))) some = qah_B2 n t2 t13 m0 m0_1 m0_2 m0_3 m0_4 m0_5 m0_6 m1 m2 m3 m4 := by kernel_rfl
theorem qah_f2 (n : Nat) : LoopFact tab (qah_tbl n) (qah_loops n) qah_an [] n 2 qah_l2 (qah_L2 n) := ⟨[2, 3, 7, 8, 9, 10, 13], (fun s => qah_B2 n s.1.1 s.1.2 s.2.1.1 s.2.1.2.1 s.2.1.2.2.1 s.2.1.2.2.2.1 s.2.1.2.2.2.2.1 s.2.1.2.2.2.2.2.1 s.2.1.2.2.2.2.2.2 s.2.2.1 s.2.2.2.1 s.2.2.2.2.1 s.2.2.2.2.2), by kernel_rfl, by kernel_rfl, fun s => rfl, fun s => qah_r2 n s.1.1 s.1.2 s.2.1.1 s.2.1.2.1 s.2.1.2.2.1 s.2.1.2.2.2.1 s.2.1.2.2.2.2.1 s.2.1.2.2.2.2.2.1 s.2.1.2.2.2.2.2.2 s.2.2.1 s.2.2.2.1 s.2.2.2.2.1 s.2.2.2.2.2⟩
theorem qah_r4 (n : Nat) (t2 : Bool) (t15 : Int) (m0 : DE) (m0_1 : DE) (m0_2 : DB) (m0_3 : Int) (m0_4 : Int) (m0_5 : Int) (m0_6 : Int) (m1 : DA) (m2 : DA) (m3 : DA) (m4 : DA) : roundK (real _) tab (qah_tbl n) (qah_loops n) qah_an [] qah_l4 4 [2, 3, 7, 8, 9, 10, 15] qah_h4 qah_o4 ((t2, t15), ((m0, (m0_1, (m0_2, (m0_3, (m0_4, (m0_5, m0_6)))))), (m1, (m2, (m3, m4))))) some = qah_B4 n t2 t15 m0 m0_1 m0_2 m0_3 m0_4 m0_5 m0_6 m1 m2 m3 m4 := by kernel_rfl
theorem qah_f4 (n : Nat) : LoopFact tab (qah_tbl n) (qah_loops n) qah_an [] n 4 qah_l4 (qah_L4 n) := ⟨[2, 3, 7, 8, 9, 10, 15], (fun s => qah_B4 n s.1.1 s.1.2 s.2.1.1 s.2.1.2.1 s.2.1.2.2.1 s.2.1.2.2.2.1 s.2.1.2.2.2.2.1 s.2.1.2.2.2.2.2.1 s.2.1.2.2.2.2.2.2 s.2.2.1 s.2.2.2.1 s.2.2.2.2.1 s.2.2.2.2.2), by kernel_rfl, by kernel_rfl, fun s => rfl, fun s => qah_r4 n s.1.1 s.1.2 s.2.1.1 s.2.1.2.1 s.2.1.2.2.1 s.2.1.2.2.2.1 s.2.1.2.2.2.2.1 s.2.1.2.2.2.2.2.1 s.2.1.2.2.2.2.2.2 s.2.2.1 s.2.2.2.1 s.2.2.2.2.1 s.2.2.2.2.2⟩
theorem qah_run (n : Nat) (t0 : DE) (t0_1 : DE) (t0_2 : DB) (t0_3 : Int) (t0_4 : Int) (t0_5 : Int) (t0_6 : Int) (t1 : Int) (t2 : Bool) : funD (real _) tab (qah_tbl n) (qah_loops n) qah_an Try.f14 qah_a qah_res ((t0, (t0_1, (t0_2, (t0_3, (t0_4, (t0_5, t0_6)))))), (t1, t2)) some = qah n t0 t0_1 t0_2 t0_3 t0_4 t0_5 t0_6 t1 t2 := by kernel_rfl
def qah_E (n : Nat) : Entry := ⟨qah_a, qah_res, fun d => qah n d.1.1 d.1.2.1 d.1.2.2.1 d.1.2.2.2.1 d.1.2.2.2.2.1 d.1.2.2.2.2.2.1 d.1.2.2.2.2.2.2 d.2.1 d.2.2⟩
theorem qah_ok (n : Nat) : EOK Try.prog 14 (qah_E n) :=
 EOK.of zc zb zj (tbl := qah_tbl n) (loops := qah_loops n) (an := qah_an) (old := []) (n := n) (c := qah_c) (fn := Try.f14) (TblOK.cons (AllE.cons (qaj_ok n) AllE.nil) (TblOK.cons (AllE.cons (qaf_ok n) AllE.nil) (TblOK.cons (AllE.cons (qam_ok n) AllE.nil) (TblOK.cons (AllE.cons (qao_ok n) AllE.nil) (TblOK.cons (AllE.cons (qaq_ok n) AllE.nil) TblOK.nil))))) (by kernel_rfl) (by kernel_rfl) (by kernel_rfl) (by kernel_rfl) (fun d => by kernel_rfl) (LT.cons (by kernel_rfl) (qah_f0 n) (LT.cons (by kernel_rfl) (qah_f2 n) (LT.cons (by kernel_rfl) (qah_f4 n) LT.nil))) (fun a => qah_run n a.1.1 a.1.2.1 a.1.2.2.1 a.1.2.2.2.1 a.1.2.2.2.2.1 a.1.2.2.2.2.2.1 a.1.2.2.2.2.2.2 a.2.1 a.2.2)
def qan_an : Ann := { live := [(0, [0, 1, 5])] }
def qan_c : Code := (match Try.f13.body with | some c => c | none => .skip)
def qan_l0 : Code := (match assoc 0 (loopsIn qan_c 0) with | some c => c | none => .skip)
def qan_a : StSh := ⟨.normal, [0, 1], (.cons (.sl true false (.int .u8)) (.cons (.sl true false (.int .u8)) .nil)), .nil⟩
def qan_h0 : List StSh := [⟨.normal, [0, 1, 5], (.cons (.sl true false (.int .u8)) (.cons (.sl true false (.int .u8)) (.cons (.int .i64) .nil))), .nil⟩]
def qan_o0 : List StSh := [⟨.ret, [4], (.cons .bool .nil), .nil⟩, ⟨.exit 0, [], .nil, .nil⟩]
def qan_L0 (n : Nat) : LEntry := ⟨qan_h0, qan_o0, qan_W0 n⟩
def qan_res : List StSh := [⟨.ret, [0], (.cons .bool .nil), .nil⟩]
def qan_tbl (n : Nat) : FuncId → List Entry := fun f => []
def qan_loops (n : Nat) : Nat → Option LEntry := fun f => bif Nat.beq f 0 then some (qan_L0 n) else none
theorem qan_r0 (n : Nat) (a_0 : DA) (b_1 : DA) (i_5 : Int) : roundK (real _) tab (qan_tbl n) (qan_loops n) qan_an [] qan_l0 0 [0, 1, 5] qan_h0 qan_o0 (a_0, (b_1, i_5)) some = qan_B0 n a_0 b_1 i_5 := by kernel_rfl
theorem qan_f0 (n : Nat) : LoopFact tab (qan_tbl n) (qan_loops n) qan_an [] n 0 qan_l0 (qan_L0 n) := ⟨[0, 1, 5], (fun s => qan_B0 n s.1 s.2.1 s.2.2), by kernel_rfl, by kernel_rfl, fun s => rfl, fun s => qan_r0 n s.1 s.2.1 s.2.2⟩
theorem qan_run (n : Nat) (a_0 : DA) (b_1 : DA) : funDS (real _) tab (qan_tbl n) (qan_loops n) qan_an Try.f13 0 qan_a qan_res (a_0, b_1) some = qan n a_0 b_1 := by kernel_rfl
def qan_E (n : Nat) : Entry := ⟨qan_a, qan_res, fun d => qan n d.1 d.2⟩
theorem qan_ok (n : Nat) : EOK Try.prog 13 (qan_E n) :=
 EOK.ofS zc zb zj (tbl := qan_tbl n) (loops := qan_loops n) (an := qan_an) (old := []) (n := n) (c := qan_c) (fn := Try.f13) TblOK.nil (by kernel_rfl) (by kernel_rfl) (by kernel_rfl) (by kernel_rfl) (fun d => by kernel_rfl) (LT.cons (by kernel_rfl) (qan_f0 n) LT.nil) (fun a => qan_run n a.1 a.2)
def qai_an : Ann := { live := [(0, [1, 3, 4]), (2, [1, 3, 5]), (4, [1, 3, 6]), (6, [3, 7])], boxed := [(1, 6), (5, 14), (9, 14), (13, 8)] }
def qai_c : Code := (match Try.f16.body with | some c => c | none => .skip)
def qai_l0 : Code := (match assoc 0 (loopsIn qai_c 0) with | some c => c | none => .skip)
def qai_l2 : Code := (match assoc 2 (loopsIn qai_c 0) with | some c => c | none => .skip)
def qai_l4 : Code := (match assoc 4 (loopsIn qai_c 0) with | some c => c | none => .skip)
def qai_l6 : Code := (match assoc 6 (loopsIn qai_c 0) with | some c => c | none => .skip)
def qai_a : StSh := ⟨.normal, [0], (.cons (.agg (.cons (.sl true true yA) (.cons (.sl true true yB) (.cons (.sl true true yC) (.cons (.int .i64) (.cons (.int .i64) (.cons (.int .i64) (.cons (.int .u64) .nil)))))))) .nil), .nil⟩
def qai_h0 : List StSh := [⟨.normal, [1, 3, 4], (.cons (.ptr 0 0 0 0) (.cons (.msw 1 0) (.cons (.int .i64) .nil))), (.cons (.bcells 0 false 1 (.cons (.sl true true yA) (.cons (.sl true true yB) (.cons (.sl true true yC) (.cons (.int .i64) (.cons (.int .i64) (.cons (.int .i64) (.cons (.int .u64) .nil)))))))) (.cons (.bts 0 false false false (.int .i64)) .nil))⟩]
def qai_o0 : List StSh := [⟨.exit 0, [1, 3], (.cons (.ptr 0 0 0 0) (.cons (.msw 1 0) .nil)), (.cons (.bcells 0 false 1 (.cons (.sl true true yA) (.cons (.sl true true yB) (.cons (.sl true true yC) (.cons (.int .i64) (.cons (.int .i64) (.cons (.int .i64) (.cons (.int .u64) .nil)))))))) (.cons (.bts 0 false false false (.int .i64)) .nil))⟩]
def qai_L0 (n : Nat) : LEntry := ⟨qai_h0, qai_o0, qai_W0 n⟩
def qai_h2 : List StSh := [⟨.normal, [1, 3, 5], (.cons (.ptr 0 0 0 0) (.cons (.msw 1 0) (.cons (.int .i64) .nil))), (.cons (.bcells 0 false 1 (.cons (.sl true true yA) (.cons (.sl true true yB) (.cons (.sl true true yC) (.cons (.int .i64) (.cons (.int .i64) (.cons (.int .i64) (.cons (.int .u64) .nil)))))))) (.cons (.bts 0 false false false (.int .i64)) .nil))⟩]
def qai_o2 : List StSh := [⟨.exit 2, [1, 3], (.cons (.ptr 0 0 0 0) (.cons (.msw 1 0) .nil)), (.cons (.bcells 0 false 1 (.cons (.sl true true yA) (.cons (.sl true true yB) (.cons (.sl true true yC) (.cons (.int .i64) (.cons (.int .i64) (.cons (.int .i64) (.cons (.int .u64) .nil)))))))) (.cons (.bts 0 false false false (.int .i64)) .nil))⟩]
def qai_L2 (n : Nat) : LEntry := ⟨qai_h2, qai_o2, qai_W2 n⟩
def qai_h4 : List StSh := [⟨.normal, [1, 3, 6], (.cons (.ptr 0 0 0 0) (.cons (.msw 1 0) (.cons (.int .i64) .nil))), (.cons (.bcells 0 false 1 (.cons (.sl true true yA) (.cons (.sl true true yB) (.cons (.sl true true yC) (.cons (.int .i64) (.cons (.int .i64) (.cons (.int .i64) (.cons (.int .u64) .nil)))))))) (.cons (.bts 0 false false false (.int .i64)) .nil))⟩]
def qai_o4 : List StSh := [⟨.exit 4, [3], (.cons (.msw 1 0) .nil), (.cons (.bcells 0 false 1 (.cons (.sl true true yA) (.cons (.sl true true yB) (.cons (.sl true true yC) (.cons (.int .i64) (.cons (.int .i64) (.cons (.int .i64) (.cons (.int .u64) .nil)))))))) (.cons (.bts 0 false false false (.int .i64)) .nil))⟩]
def qai_L4 (n : Nat) : LEntry := ⟨qai_h4, qai_o4, qai_W4 n⟩
def qai_h6 : List StSh := [⟨.normal, [3, 7], (.cons (.msw 0 0) (.cons (.int .i64) .nil)), (.cons (.bts 0 false false false (.int .i64)) .nil)⟩]
def qai_o6 : List StSh := [⟨.ret, [2], (.cons .bool .nil), (.cons (.bts 0 false false false (.int .i64)) .nil)⟩, ⟨.exit 6, [], .nil, (.cons (.bts 0 false false false (.int .i64)) .nil)⟩]
def qai_L6 (n : Nat) : LEntry := ⟨qai_h6, qai_o6, qai_W6 n⟩
def qai_res : List StSh := [⟨.ret, [0], (.cons .bool .nil), .nil⟩]
def qai_tbl (n : Nat) : FuncId → List Entry := fun f => []
def qai_loops (n : Nat) : Nat → Option LEntry := fun f => bif Nat.beq f 0 then some (qai_L0 n) else bif Nat.beq f 2 then some (qai_L2 n) else bif Nat.beq f 4 then some (qai_L4 n) else bif Nat.beq f 6 then some (qai_L6 n) else none
theorem qai_r0 (n : Nat) (t4 : Int) (m0 : DE) (m0_1 : DE) (m0_2 : DB) (m0_3 : Int) (m0_4 : Int) (m0_5 : Int) (m0_6 : Int) (m1 : DA) : roundK (real _) tab (qai_tbl n) (qai_loops n) qai_an [] qai_l0 0 [1, 3, 4] qai_h0 qai_o0 (t4, ((m0, (m0_1, (m0_2, (m0_3, (m0_4, (m0_5, m0_6)))))), m1)) some = qai_B0 n t4 m0 m0_1 m0_2 m0_3 m0_4 m0_5 m0_6 m1 := by kernel_rfl
theorem qai_f0 (n : Nat) : LoopFact tab (qai_tbl n) (qai_loops n) qai_an [] n 0 qai_l0 (qai_L0 n) := ⟨[1, 3, 4], (fun s => qai_B0 n s.1 s.2.1.1 s.2.1.2.1 s.2.1.2.2.1 s.2.1.2.2.2.1 s.2.1.2.2.2.2.1 s.2.1.2.2.2.2.2.1 s.2.1.2.2.2.2.2.2 s.2.2), by kernel_rfl, by kernel_rfl, fun s => rfl, fun s => qai_r0 n s.1 s.2.1.1 s.2.1.2.1 s.2.1.2.2.1 s.2.1.2.2.2.1 s.2.1.2.2.2.2.1 s.2.1.2.2.2.2.2.1 s.2.1.2.2.2.2.2.2 s.2.2⟩
theorem qai_r2 (n : Nat) (t5 : Int) (m0 : DE) (m0_1 : DE) (m0_2 : DB) (m0_3 : Int) (m0_4 : Int) (m0_5 : Int) (m0_6 : Int) (m1 : DA) : roundK (real _) tab (qai_tbl n) (qai_loops n) qai_an [] qai_l2 2 [1, 3, 5] qai_h2 qai_o2 (t5, ((m0, (m0_1, (m0_2, (m0_3, (m0_4, (m0_5, m0_6)))))), m1)) some = qai_B2 n t5 m0 m0_1 m0_2 m0_3 m0_4 m0_5 m0_6 m1 := by kernel_rfl
theorem qai_f2 (n : Nat) : LoopFact tab (qai_tbl n) (qai_loops n) qai_an [] n 2 qai_l2 (qai_L2 n) := ⟨[1, 3, 5], (fun s => qai_B2 n s.1 s.2.1.1 s.2.1.2.1 s.2.1.2.2.1 s.2.1.2.2.2.1 s.2.1.2.2.2.2.1 s.2.1.2.2.2.2.2.1 s.2.1.2.2.2.2.2.2 s.2.2), by kernel_rfl, by kernel_rfl, fun s => rfl, fun s => qai_r2 n s.1 s.2.1.1 s.2.1.2.1 s.2.1.2.2.1 s.2.1.2.2.2.1 s.2.1.2.2.2.2.1 s.2.1.2.2.2.2.2.1 s.2.1.2.2.2.2.2.2 s.2.2⟩
theorem qai_r4 (n : Nat) (t6 : Int) (m0 : DE) (m0_1 : DE) (m0_2 : DB) (m0_3 : Int) (m0_4 : Int) (m0_5 : Int) (m0_6 : Int) (m1 : DA) : roundK (real _) tab (qai_tbl n) (qai_loops n) qai_an [] qai_l4 4 [1, 3, 6] qai_h4 qai_o4 (t6, ((m0, (m0_1, (m0_2, (m0_3, (m0_4, (m0_5, m0_6)))))), m1)) some = qai_B4 n t6 m0 m0_1 m0_2 m0_3 m0_4 m0_5 m0_6 m1 := by kernel_rfl
theorem qai_f4 (n : Nat) : LoopFact tab (qai_tbl n) (qai_loops n) qai_an [] n 4 qai_l4 (qai_L4 n) := ⟨[1, 3, 6], (fun s => qai_B4 n s.1 s.2.1.1 s.2.1.2.1 s.2.1.2.2.1 s.2.1.2.2.2.1 s.2.1.2.2.2.2.1 s.2.1.2.2.2.2.2.1 s.2.1.2.2.2.2.2.2 s.2.2), by kernel_rfl, by kernel_rfl, fun s => rfl, fun s => qai_r4 n s.1 s.2.1.1 s.2.1.2.1 s.2.1.2.2.1 s.2.1.2.2.2.1 s.2.1.2.2.2.2.1 s.2.1.2.2.2.2.2.1 s.2.1.2.2.2.2.2.2 s.2.2⟩
theorem qai_r6 (n : Nat) (t7 : Int) (m0 : DA) : roundK (real _) tab (qai_tbl n) (qai_loops n) qai_an [] qai_l6 6 [3, 7] qai_h6 qai_o6 (t7, m0) some = qai_B6 n t7 m0 := by kernel_rfl
theorem qai_f6 (n : Nat) : LoopFact tab (qai_tbl n) (qai_loops n) qai_an [] n 6 qai_l6 (qai_L6 n) := ⟨[3, 7], (fun s => qai_B6 n s.1 s.2), by kernel_rfl, by kernel_rfl, fun s => rfl, fun s => qai_r6 n s.1 s.2⟩
theorem qai_run (n : Nat) (t0 : DE) (t0_1 : DE) (t0_2 : DB) (t0_3 : Int) (t0_4 : Int) (t0_5 : Int) (t0_6 : Int) : funDS (real _) tab (qai_tbl n) (qai_loops n) qai_an Try.f16 0 qai_a qai_res (t0, (t0_1, (t0_2, (t0_3, (t0_4, (t0_5, t0_6)))))) some = qai n t0 t0_1 t0_2 t0_3 t0_4 t0_5 t0_6 := by kernel_rfl
def qai_E (n : Nat) : Entry := ⟨qai_a, qai_res, fun d => qai n d.1 d.2.1 d.2.2.1 d.2.2.2.1 d.2.2.2.2.1 d.2.2.2.2.2.1 d.2.2.2.2.2.2⟩
theorem qai_ok (n : Nat) : EOK Try.prog 16 (qai_E n) :=
 EOK.ofS zc zb zj (tbl := qai_tbl n) (loops := qai_loops n) (an := qai_an) (old := []) (n := n) (c := qai_c) (fn := Try.f16) TblOK.nil (by kernel_rfl) (by kernel_rfl) (by kernel_rfl) (by kernel_rfl) (fun d => by kernel_rfl) (LT.cons (by kernel_rfl) (qai_f0 n) (LT.cons (by kernel_rfl) (qai_f2 n) (LT.cons (by kernel_rfl) (qai_f4 n) (LT.cons (by kernel_rfl) (qai_f6 n) LT.nil)))) (fun a => qai_run n a.1 a.2.1 a.2.2.1 a.2.2.2.1 a.2.2.2.2.1 a.2.2.2.2.2.1 a.2.2.2.2.2.2)
def qac_an : Ann := { live := [(0, [2, 3, 5])] }
def qac_c : Code := (match Try.f17.body with | some c => c | none => .skip)
def qac_l0 : Code := (match assoc 0 (loopsIn qac_c 0) with | some c => c | none => .skip)
def qac_a : StSh := ⟨.normal, [0, 1], (.cons (.agg (.cons (.sl true true yA) (.cons (.sl true true yB) (.cons (.sl true true yC) (.cons (.int .i64) (.cons (.int .i64) (.cons (.int .i64) (.cons (.int .u64) .nil)))))))) (.cons (.agg (.cons (.sl true true yA) (.cons (.sl true true yB) (.cons (.sl true true yC) (.cons (.int .i64) (.cons (.int .i64) (.cons (.int .i64) (.cons (.int .u64) .nil)))))))) .nil)), .nil⟩
def qal_an : Ann := { live := [(0, [0, 1, 5])] }
def qal_c : Code := (match Try.f49.body with | some c => c | none => .skip)
def qal_l0 : Code := (match assoc 0 (loopsIn qal_c 0) with | some c => c | none => .skip)
def qal_a : StSh := ⟨.normal, [0, 1], (.cons (.sl true false (.int .u64)) (.cons (.sl true false (.int .u64)) .nil)), .nil⟩
def qal_h0 : List StSh := [⟨.normal, [0, 1, 5], (.cons (.sl true false (.int .u64)) (.cons (.sl true false (.int .u64)) (.cons (.int .i64) .nil))), .nil⟩]
def qal_o0 : List StSh := [⟨.ret, [4], (.cons .bool .nil), .nil⟩, ⟨.exit 0, [], .nil, .nil⟩]
def qal_L0 (n : Nat) : LEntry := ⟨qal_h0, qal_o0, qal_W0 n⟩
def qal_res : List StSh := [⟨.ret, [0], (.cons .bool .nil), .nil⟩]
def qal_tbl (n : Nat) : FuncId → List Entry := fun f => []
def qal_loops (n : Nat) : Nat → Option LEntry := fun f => bif Nat.beq f 0 then some (qal_L0 n) else none
theorem qal_r0 (n : Nat) (a_0 : DA) (b_1 : DA) (i_5 : Int) : roundK (real _) tab (qal_tbl n) (qal_loops n) qal_an [] qal_l0 0 [0, 1, 5] qal_h0 qal_o0 (a_0, (b_1, i_5)) some = qal_B0 n a_0 b_1 i_5 := by kernel_rfl
theorem qal_f0 (n : Nat) : LoopFact tab (qal_tbl n) (qal_loops n) qal_an [] n 0 qal_l0 (qal_L0 n) := ⟨[0, 1, 5], (fun s => qal_B0 n s.1 s.2.1 s.2.2), by kernel_rfl, by kernel_rfl, fun s => rfl, fun s => qal_r0 n s.1 s.2.1 s.2.2⟩
theorem qal_run (n : Nat) (a_0 : DA) (b_1 : DA) : funDS (real _) tab (qal_tbl n) (qal_loops n) qal_an Try.f49 0 qal_a qal_res (a_0, b_1) some = qal n a_0 b_1 := by kernel_rfl
def qal_E (n : Nat) : Entry := ⟨qal_a, qal_res, fun d => qal n d.1 d.2⟩
theorem qal_ok (n : Nat) : EOK Try.prog 49 (qal_E n) :=
 EOK.ofS zc zb zj (tbl := qal_tbl n) (loops := qal_loops n) (an := qal_an) (old := []) (n := n) (c := qal_c) (fn := Try.f49) TblOK.nil (by kernel_rfl) (by kernel_rfl) (by kernel_rfl) (by kernel_rfl) (fun d => by kernel_rfl) (LT.cons (by kernel_rfl) (qal_f0 n) LT.nil) (fun a => qal_run n a.1 a.2)
def qac_h0 : List StSh := [⟨.normal, [2, 3, 5], (.cons (.ptr 0 0 0 0) (.cons (.ptr 1 0 0 0) (.cons (.int .i64) .nil))), (.cons (.bcells 0 false 1 (.cons (.sl true true yA) (.cons (.sl true true yB) (.cons (.sl true true yC) (.cons (.int .i64) (.cons (.int .i64) (.cons (.int .i64) (.cons (.int .u64) .nil)))))))) (.cons (.bcells 0 false 1 (.cons (.sl true true yA) (.cons (.sl true true yB) (.cons (.sl true true yC) (.cons (.int .i64) (.cons (.int .i64) (.cons (.int .i64) (.cons (.int .u64) .nil)))))))) .nil))⟩]
def qac_o0 : List StSh := [⟨.ret, [4], (.cons .bool .nil), (.cons (.bcells 0 false 1 (.cons (.sl true true yA) (.cons (.sl true true yB) (.cons (.sl true true yC) (.cons (.int .i64) (.cons (.int .i64) (.cons (.int .i64) (.cons (.int .u64) .nil)))))))) (.cons (.bcells 0 false 1 (.cons (.sl true true yA) (.cons (.sl true true yB) (.cons (.sl true true yC) (.cons (.int .i64) (.cons (.int .i64) (.cons (.int .i64) (.cons (.int .u64) .nil)))))))) (.cons (.bcells 0 false 1 (.cons (.int .i64) (.cons (.int .i64) (.cons (.sl true false (.int .u64)) (.cons (.sl true false (.int .u64)) .nil))))) (.cons (.bcells 0 false 1 (.cons (.int .i64) (.cons (.int .i64) (.cons (.sl true false (.int .u64)) (.cons (.sl true false (.int .u64)) .nil))))) .nil))))⟩, ⟨.exit 0, [2, 3], (.cons (.ptr 0 0 0 0) (.cons (.ptr 1 0 0 0) .nil)), (.cons (.bcells 0 false 1 (.cons (.sl true true yA) (.cons (.sl true true yB) (.cons (.sl true true yC) (.cons (.int .i64) (.cons (.int .i64) (.cons (.int .i64) (.cons (.int .u64) .nil)))))))) (.cons (.bcells 0 false 1 (.cons (.sl true true yA) (.cons (.sl true true yB) (.cons (.sl true true yC) (.cons (.int .i64) (.cons (.int .i64) (.cons (.int .i64) (.cons (.int .u64) .nil)))))))) .nil))⟩]
def qac_L0 (n : Nat) : LEntry := ⟨qac_h0, qac_o0, qac_W0 n⟩
def qar_an : Ann := { live := [(0, [0, 1, 5])] }
def qar_c : Code := (match Try.f50.body with | some c => c | none => .skip)
def qar_l0 : Code := (match assoc 0 (loopsIn qar_c 0) with | some c => c | none => .skip)
def qar_a : StSh := ⟨.normal, [0, 1], (.cons (.sl true true yB) (.cons (.sl true true yB) .nil)), .nil⟩
def qar_h0 : List StSh := [⟨.normal, [0, 1, 5], (.cons (.sl true true yB) (.cons (.sl true true yB) (.cons (.int .i64) .nil))), .nil⟩]
def qar_o0 : List StSh := [⟨.ret, [4], (.cons .bool .nil), .nil⟩, ⟨.exit 0, [], .nil, .nil⟩]
def qar_L0 (n : Nat) : LEntry := ⟨qar_h0, qar_o0, qar_W0 n⟩
def qar_res : List StSh := [⟨.ret, [0], (.cons .bool .nil), .nil⟩]
def qar_tbl (n : Nat) : FuncId → List Entry := fun f => bif Nat.beq f 49 then [qal_E n] else bif Nat.beq f 13 then [qan_E n] else []
def qar_loops (n : Nat) : Nat → Option LEntry := fun f => bif Nat.beq f 0 then some (qar_L0 n) else none
theorem qar_r0 (n : Nat) (t0 : DE) (t1 : DE) (t5 : Int) : roundK (real _) tab (qar_tbl n) (qar_loops n) qar_an [] qar_l0 0 [0, 1, 5] qar_h0 qar_o0 (t0, (t1, t5)) some = qar_B0 n t0 t1 t5 := by kernel_rfl
theorem qar_f0 (n : Nat) : LoopFact tab (qar_tbl n) (qar_loops n) qar_an [] n 0 qar_l0 (qar_L0 n) := ⟨[0, 1, 5], (fun s => qar_B0 n s.1 s.2.1 s.2.2), by kernel_rfl, by kernel_rfl, fun s => rfl, fun s => qar_r0 n s.1 s.2.1 s.2.2⟩
theorem qar_run (n : Nat) (t0 : DE) (t1 : DE) : funDS (real _) tab (qar_tbl n) (qar_loops n) qar_an Try.f50 0 qar_a qar_res (t0, t1) some = qar n t0 t1 := by kernel_rfl
def qar_E (n : Nat) : Entry := ⟨qar_a, qar_res, fun d => qar n d.1 d.2⟩
theorem qar_ok (n : Nat) : EOK Try.prog 50 (qar_E n) :=
 EOK.ofS zc zb zj (tbl := qar_tbl n) (loops := qar_loops n) (an := qar_an) (old := []) (n := n) (c := qar_c) (fn := Try.f50) (TblOK.cons (AllE.cons (qal_ok n) AllE.nil) (TblOK.cons (AllE.cons (qan_ok n) AllE.nil) TblOK.nil)) (by kernel_rfl) (by kernel_rfl) (by kernel_rfl) (by kernel_rfl) (fun d => by kernel_rfl) (LT.cons (by kernel_rfl) (qar_f0 n) LT.nil) (fun a => qar_run n a.1 a.2)
def qap_an : Ann := { live := [(0, [0, 1, 5])] }
def qap_c : Code := (match Try.f51.body with | some c => c | none => .skip)
def qap_l0 : Code := (match assoc 0 (loopsIn qap_c 0) with | some c => c | none => .skip)
def qap_a : StSh := ⟨.normal, [0, 1], (.cons (.sl true true yC) (.cons (.sl true true yC) .nil)), .nil⟩
def qap_h0 : List StSh := [⟨.normal, [0, 1, 5], (.cons (.sl true true yC) (.cons (.sl true true yC) (.cons (.int .i64) .nil))), .nil⟩]
def qap_o0 : List StSh := [⟨.ret, [4], (.cons .bool .nil), .nil⟩, ⟨.exit 0, [], .nil, .nil⟩]
def qap_L0 (n : Nat) : LEntry := ⟨qap_h0, qap_o0, qap_W0 n⟩
def qap_res : List StSh := [⟨.ret, [0], (.cons .bool .nil), .nil⟩]
def qap_tbl (n : Nat) : FuncId → List Entry := fun f => []
def qap_loops (n : Nat) : Nat → Option LEntry := fun f => bif Nat.beq f 0 then some (qap_L0 n) else none
theorem qap_r0 (n : Nat) (a_0 : DB) (b_1 : DB) (i_5 : Int) : roundK (real _) tab (qap_tbl n) (qap_loops n) qap_an [] qap_l0 0 [0, 1, 5] qap_h0 qap_o0 (a_0, (b_1, i_5)) some = qap_B0 n a_0 b_1 i_5 := by kernel_rfl
theorem qap_f0 (n : Nat) : LoopFact tab (qap_tbl n) (qap_loops n) qap_an [] n 0 qap_l0 (qap_L0 n) := ⟨[0, 1, 5], (fun s => qap_B0 n s.1 s.2.1 s.2.2), by kernel_rfl, by kernel_rfl, fun s => rfl, fun s => qap_r0 n s.1 s.2.1 s.2.2⟩
theorem qap_run (n : Nat) (a_0 : DB) (b_1 : DB) : funDS (real _) tab (qap_tbl n) (qap_loops n) qap_an Try.f51 0 qap_a qap_res (a_0, b_1) some = qap n a_0 b_1 := by kernel_rfl
def qap_E (n : Nat) : Entry := ⟨qap_a, qap_res, fun d => qap n d.1 d.2⟩
theorem qap_ok (n : Nat) : EOK Try.prog 51 (qap_E n) :=
 EOK.ofS zc zb zj (tbl := qap_tbl n) (loops := qap_loops n) (an := qap_an) (old := []) (n := n) (c := qap_c) (fn := Try.f51) TblOK.nil (by kernel_rfl) (by kernel_rfl) (by kernel_rfl) (by kernel_rfl) (fun d => by kernel_rfl) (LT.cons (by kernel_rfl) (qap_f0 n) LT.nil) (fun a => qap_run n a.1 a.2)
def qac_res : List StSh := [⟨.ret, [0], (.cons .bool .nil), .nil⟩]
def qac_tbl (n : Nat) : FuncId → List Entry := fun f => bif Nat.beq f 49 then [qal_E n] else bif Nat.beq f 50 then [qar_E n] else bif Nat.beq f 51 then [qap_E n] else []
def qac_loops (n : Nat) : Nat → Option LEntry := fun f => bif Nat.beq f 0 then some (qac_L0 n) else none
theorem qac_r0 (n : Nat) (t5 : Int) (m0 : DE) (m0_1 : DE) (m0_2 : DB) (m0_3 : Int) (m0_4 : Int) (m0_5 : Int) (m0_6 : Int) (m1 : DE) (m1_1 : DE) (m1_2 : DB) (m1_3 : Int) (m1_4 : Int) (m1_5 : Int) (m1_6 : Int) : roundK (real _) tab (qac_tbl n) (qac_loops n) qac_an [] qac_l0 0 [2, 3, 5] qac_h0 qac_o0 (t5, ((m0, (m0_1, (m0_2, (m0_3, (m0_4, (m0_5, m0_6)))))), (m1, (m1_1, (m1_2, (m1_3, (m1_4, (m1_5, m1_6)))))))) some = qac_B0 n t5 m0 m0_1 m0_2 m0_3 m0_4 m0_5 m0_6 m1 m1_1 m1_2 m1_3 m1_4 m1_5 m1_6 := by kernel_rfl
theorem qac_f0 (n : Nat) : LoopFact tab (qac_tbl n) (qac_loops n) qac_an [] n 0 qac_l0 (qac_L0 n) := ⟨[2, 3, 5], (fun s => qac_B0 n s.1 s.2.1.1 s.2.1.2.1 s.2.1.2.2.1 s.2.1.2.2.2.1 s.2.1.2.2.2.2.1 s.2.1.2.2.2.2.2.1 s.2.1.2.2.2.2.2.2 s.2.2.1 s.2.2.2.1 s.2.2.2.2.1 s.2.2.2.2.2.1 s.2.2.2.2.2.2.1 s.2.2.2.2.2.2.2.1 s.2.2.2.2.2.2.2.2), by kernel_rfl, by kernel_rfl, fun s => rfl, fun s => qac_r0 n s.1 s.2.1.1 s.2.1.2.1 s.2.1.2.2.1 s.2.1.2.2.2.1 s.2.1.2.2.2.2.1 s.2.1.2.2.2.2.2.1 s.2.1.2.2.2.2.2.2 s.2.2.1 s.2.2.2.1 s.2.2.2.2.1 s.2.2.2.2.2.1 s.2.2.2.2.2.2.1 s.2.2.2.2.2.2.2.1 s.2.2.2.2.2.2.2.2⟩
theorem qac_run (n : Nat) (t0 : DE) (t0_1 : DE) (t0_2 : DB) (t0_3 : Int) (t0_4 : Int) (t0_5 : Int) (t0_6 : Int) (t1 : DE) (t1_1 : DE) (t1_2 : DB) (t1_3 : Int) (t1_4 : Int) (t1_5 : Int) (t1_6 : Int) : funDS (real _) tab (qac_tbl n) (qac_loops n) qac_an Try.f17 0 qac_a qac_res ((t0, (t0_1, (t0_2, (t0_3, (t0_4, (t0_5, t0_6)))))), (t1, (t1_1, (t1_2, (t1_3, (t1_4, (t1_5, t1_6))))))) some = qac n t0 t0_1 t0_2 t0_3 t0_4 t0_5 t0_6 t1 t1_1 t1_2 t1_3 t1_4 t1_5 t1_6 := by kernel_rfl
def qac_E (n : Nat) : Entry := ⟨qac_a, qac_res, fun d => qac n d.1.1 d.1.2.1 d.1.2.2.1 d.1.2.2.2.1 d.1.2.2.2.2.1 d.1.2.2.2.2.2.1 d.1.2.2.2.2.2.2 d.2.1 d.2.2.1 d.2.2.2.1 d.2.2.2.2.1 d.2.2.2.2.2.1 d.2.2.2.2.2.2.1 d.2.2.2.2.2.2.2⟩
theorem qac_ok (n : Nat) : EOK Try.prog 17 (qac_E n) :=
 EOK.ofS zc zb zj (tbl := qac_tbl n) (loops := qac_loops n) (an := qac_an) (old := []) (n := n) (c := qac_c) (fn := Try.f17) (TblOK.cons (AllE.cons (qal_ok n) AllE.nil) (TblOK.cons (AllE.cons (qar_ok n) AllE.nil) (TblOK.cons (AllE.cons (qap_ok n) AllE.nil) TblOK.nil))) (by kernel_rfl) (by kernel_rfl) (by kernel_rfl) (by kernel_rfl) (fun d => by kernel_rfl) (LT.cons (by kernel_rfl) (qac_f0 n) LT.nil) (fun a => qac_run n a.1.1 a.1.2.1 a.1.2.2.1 a.1.2.2.2.1 a.1.2.2.2.2.1 a.1.2.2.2.2.2.1 a.1.2.2.2.2.2.2 a.2.1 a.2.2.1 a.2.2.2.1 a.2.2.2.2.1 a.2.2.2.2.2.1 a.2.2.2.2.2.2.1 a.2.2.2.2.2.2.2)
def law20ImageOwn_an : Ann := { live := [(0, [2, 5, 6, 8, 9, 10])], raw := [(3, 2)] }
def law20ImageOwn_c : Code := (match Try.f6.body with | some c => c | none => .skip)
def law20ImageOwn_l0 : Code := (match assoc 0 (loopsIn law20ImageOwn_c 0) with | some c => c | none => .skip)
def law20ImageOwn_a : StSh := ⟨.normal, [0, 1], (.cons (.agg (.cons (.sl true true yA) (.cons (.sl true true yB) (.cons (.sl true true yC) (.cons (.int .i64) (.cons (.int .i64) (.cons (.int .i64) (.cons (.int .u64) .nil)))))))) (.cons (.int .u32) .nil)), .nil⟩
def qas_an : Ann := { live := [(0, [1, 2, 3, 4]), (2, [1, 2, 3, 6])], boxed := [(2, 0), (2, 3), (7, 6), (7, 10), (7, 15), (7, 16), (12, 6), (12, 10), (12, 15), (12, 16)] }
def qas_c : Code := (match Try.f19.body with | some c => c | none => .skip)
def qas_l0 : Code := (match assoc 0 (loopsIn qas_c 0) with | some c => c | none => .skip)
def qas_l2 : Code := (match assoc 2 (loopsIn qas_c 0) with | some c => c | none => .skip)
def qas_a : StSh := ⟨.normal, [0], (.cons (.agg (.cons (.sl true true yA) (.cons (.sl true true yB) (.cons (.sl true true yC) (.cons (.int .i64) (.cons (.int .i64) (.cons (.int .i64) (.cons (.int .u64) .nil)))))))) .nil), .nil⟩
def qas_h0 : List StSh := [⟨.normal, [1, 2, 3, 4], (.cons (.ptr 0 0 0 0) (.cons (.ptr 1 0 0 0) (.cons (.ptr 2 0 0 0) (.cons (.int .i64) .nil)))), (.cons (.bcells 0 false 1 (.cons (.sl true true yA) (.cons (.sl true true yB) (.cons (.sl true true yC) (.cons (.int .i64) (.cons (.int .i64) (.cons (.int .i64) (.cons (.int .u64) .nil)))))))) (.cons (.bcells 0 false 1 (.cons .nilS (.cons .nilS (.cons .nilS (.cons (.int .i64) (.cons (.int .i64) (.cons (.int .i64) (.cons (.int .u64) .nil)))))))) (.cons (.bcells 0 false 1 (.cons .nilS (.cons .nilS (.cons (.msw 3 0) (.cons (.int .i64) (.cons (.int .i64) (.cons (.int .i64) (.cons (.int .u64) .nil)))))))) (.cons (.bts 0 false false true yC) .nil))))⟩, ⟨.normal, [1, 2, 3, 4], (.cons (.ptr 0 0 0 0) (.cons (.ptr 1 0 0 0) (.cons (.ptr 2 0 0 0) (.cons (.int .i64) .nil)))), (.cons (.bcells 0 false 1 (.cons (.sl true true yA) (.cons (.sl true true yB) (.cons (.sl true true yC) (.cons (.int .i64) (.cons (.int .i64) (.cons (.int .i64) (.cons (.int .u64) .nil)))))))) (.cons (.bcells 0 false 1 (.cons .nilS (.cons .nilS (.cons .nilS (.cons (.int .i64) (.cons (.int .i64) (.cons (.int .i64) (.cons (.int .u64) .nil)))))))) (.cons (.bcells 0 false 1 (.cons (.msw 3 0) (.cons .nilS (.cons (.msw 4 0) (.cons (.int .i64) (.cons (.int .i64) (.cons (.int .i64) (.cons (.int .u64) .nil)))))))) (.cons (.bts 0 false false true yA) (.cons (.bts 0 false false true yC) .nil)))))⟩]
def qas_o0 : List StSh := [⟨.exit 0, [1, 2, 3], (.cons (.ptr 0 0 0 0) (.cons (.ptr 1 0 0 0) (.cons (.ptr 2 0 0 0) .nil))), (.cons (.bcells 0 false 1 (.cons (.sl true true yA) (.cons (.sl true true yB) (.cons (.sl true true yC) (.cons (.int .i64) (.cons (.int .i64) (.cons (.int .i64) (.cons (.int .u64) .nil)))))))) (.cons (.bcells 0 false 1 (.cons .nilS (.cons .nilS (.cons .nilS (.cons (.int .i64) (.cons (.int .i64) (.cons (.int .i64) (.cons (.int .u64) .nil)))))))) (.cons (.bcells 0 false 1 (.cons .nilS (.cons .nilS (.cons (.msw 3 0) (.cons (.int .i64) (.cons (.int .i64) (.cons (.int .i64) (.cons (.int .u64) .nil)))))))) (.cons (.bts 0 false false true yC) .nil))))⟩, ⟨.exit 0, [1, 2, 3], (.cons (.ptr 0 0 0 0) (.cons (.ptr 1 0 0 0) (.cons (.ptr 2 0 0 0) .nil))), (.cons (.bcells 0 false 1 (.cons (.sl true true yA) (.cons (.sl true true yB) (.cons (.sl true true yC) (.cons (.int .i64) (.cons (.int .i64) (.cons (.int .i64) (.cons (.int .u64) .nil)))))))) (.cons (.bcells 0 false 1 (.cons .nilS (.cons .nilS (.cons .nilS (.cons (.int .i64) (.cons (.int .i64) (.cons (.int .i64) (.cons (.int .u64) .nil)))))))) (.cons (.bcells 0 false 1 (.cons (.msw 3 0) (.cons .nilS (.cons (.msw 4 0) (.cons (.int .i64) (.cons (.int .i64) (.cons (.int .i64) (.cons (.int .u64) .nil)))))))) (.cons (.bts 0 false false true yA) (.cons (.bts 0 false false true yC) .nil)))))⟩]
def qas_L0 (n : Nat) : LEntry := ⟨qas_h0, qas_o0, qas_W0 n⟩
def qas_h2x1 : List StSh := [⟨.normal, [1, 2, 3, 6], (.cons (.ptr 0 0 0 0) (.cons (.ptr 1 0 0 0) (.cons (.ptr 2 0 0 0) (.cons (.int .i64) .nil)))), (.cons (.bcells 0 false 1 (.cons (.sl true true yA) (.cons (.sl true true yB) (.cons (.sl true true yC) (.cons (.int .i64) (.cons (.int .i64) (.cons (.int .i64) (.cons (.int .u64) .nil)))))))) (.cons (.bcells 0 false 1 (.cons .nilS (.cons .nilS (.cons .nilS (.cons (.int .i64) (.cons (.int .i64) (.cons (.int .i64) (.cons (.int .u64) .nil)))))))) (.cons (.bcells 0 false 1 (.cons .nilS (.cons .nilS (.cons (.msw 3 0) (.cons (.int .i64) (.cons (.int .i64) (.cons (.int .i64) (.cons (.int .u64) .nil)))))))) (.cons (.bts 0 false false true yC) .nil))))⟩, ⟨.normal, [1, 2, 3, 6], (.cons (.ptr 0 0 0 0) (.cons (.ptr 1 0 0 0) (.cons (.ptr 2 0 0 0) (.cons (.int .i64) .nil)))), (.cons (.bcells 0 false 1 (.cons (.sl true true yA) (.cons (.sl true true yB) (.cons (.sl true true yC) (.cons (.int .i64) (.cons (.int .i64) (.cons (.int .i64) (.cons (.int .u64) .nil)))))))) (.cons (.bcells 0 false 1 (.cons .nilS (.cons .nilS (.cons .nilS (.cons (.int .i64) (.cons (.int .i64) (.cons (.int .i64) (.cons (.int .u64) .nil)))))))) (.cons (.bcells 0 false 1 (.cons .nilS (.cons (.msw 3 0) (.cons (.msw 4 0) (.cons (.int .i64) (.cons (.int .i64) (.cons (.int .i64) (.cons (.int .u64) .nil)))))))) (.cons (.bts 0 false false true yB) (.cons (.bts 0 false false true yC) .nil)))))⟩, ⟨.normal, [1, 2, 3, 6], (.cons (.ptr 0 0 0 0) (.cons (.ptr 1 0 0 0) (.cons (.ptr 2 0 0 0) (.cons (.int .i64) .nil)))), (.cons (.bcells 0 false 1 (.cons (.sl true true yA) (.cons (.sl true true yB) (.cons (.sl true true yC) (.cons (.int .i64) (.cons (.int .i64) (.cons (.int .i64) (.cons (.int .u64) .nil)))))))) (.cons (.bcells 0 false 1 (.cons .nilS (.cons .nilS (.cons .nilS (.cons (.int .i64) (.cons (.int .i64) (.cons (.int .i64) (.cons (.int .u64) .nil)))))))) (.cons (.bcells 0 false 1 (.cons (.msw 3 0) (.cons .nilS (.cons (.msw 4 0) (.cons (.int .i64) (.cons (.int .i64) (.cons (.int .i64) (.cons (.int .u64) .nil)))))))) (.cons (.bts 0 false false true yA) (.cons (.bts 0 false false true yC) .nil)))))⟩, ⟨.normal, [1, 2, 3, 6], (.cons (.ptr 0 0 0 0) (.cons (.ptr 1 0 0 0) (.cons (.ptr 2 0 0 0) (.cons (.int .i64) .nil)))), (.cons (.bcells 0 false 1 (.cons (.sl true true yA) (.cons (.sl true true yB) (.cons (.sl true true yC) (.cons (.int .i64) (.cons (.int .i64) (.cons (.int .i64) (.cons (.int .u64) .nil)))))))) (.cons (.bcells 0 false 1 (.cons .nilS (.cons .nilS (.cons .nilS (.cons (.int .i64) (.cons (.int .i64) (.cons (.int .i64) (.cons (.int .u64) .nil)))))))) (.cons (.bcells 0 false 1 (.cons (.msw 3 0) (.cons (.msw 4 0) (.cons (.msw 5 0) (.cons (.int .i64) (.cons (.int .i64) (.cons (.int .i64) (.cons (.int .u64) .nil)))))))) (.cons (.bts 0 false false true yA) (.cons (.bts 0 false false true yB) (.cons (.bts 0 false false true yC) .nil))))))⟩]
def qas_o2x1 : List StSh := [⟨.exit 2, [2, 3], (.cons (.ptr 1 0 0 0) (.cons (.ptr 2 0 0 0) .nil)), (.cons (.bcells 0 false 1 (.cons (.sl true true yA) (.cons (.sl true true yB) (.cons (.sl true true yC) (.cons (.int .i64) (.cons (.int .i64) (.cons (.int .i64) (.cons (.int .u64) .nil)))))))) (.cons (.bcells 0 false 1 (.cons .nilS (.cons .nilS (.cons .nilS (.cons (.int .i64) (.cons (.int .i64) (.cons (.int .i64) (.cons (.int .u64) .nil)))))))) (.cons (.bcells 0 false 1 (.cons .nilS (.cons .nilS (.cons (.msw 3 0) (.cons (.int .i64) (.cons (.int .i64) (.cons (.int .i64) (.cons (.int .u64) .nil)))))))) (.cons (.bts 0 false false true yC) .nil))))⟩, ⟨.exit 2, [2, 3], (.cons (.ptr 1 0 0 0) (.cons (.ptr 2 0 0 0) .nil)), (.cons (.bcells 0 false 1 (.cons (.sl true true yA) (.cons (.sl true true yB) (.cons (.sl true true yC) (.cons (.int .i64) (.cons (.int .i64) (.cons (.int .i64) (.cons (.int .u64) .nil)))))))) (.cons (.bcells 0 false 1 (.cons .nilS (.cons .nilS (.cons .nilS (.cons (.int .i64) (.cons (.int .i64) (.cons (.int .i64) (.cons (.int .u64) .nil)))))))) (.cons (.bcells 0 false 1 (.cons .nilS (.cons (.msw 3 0) (.cons (.msw 4 0) (.cons (.int .i64) (.cons (.int .i64) (.cons (.int .i64) (.cons (.int .u64) .nil)))))))) (.cons (.bts 0 false false true yB) (.cons (.bts 0 false false true yC) .nil)))))⟩, ⟨.exit 2, [2, 3], (.cons (.ptr 1 0 0 0) (.cons (.ptr 2 0 0 0) .nil)), (.cons (.bcells 0 false 1 (.cons (.sl true true yA) (.cons (.sl true true yB) (.cons (.sl true true yC) (.cons (.int .i64) (.cons (.int .i64) (.cons (.int .i64) (.cons (.int .u64) .nil)))))))) (.cons (.bcells 0 false 1 (.cons .nilS (.cons .nilS (.cons .nilS (.cons (.int .i64) (.cons (.int .i64) (.cons (.int .i64) (.cons (.int .u64) .nil)))))))) (.cons (.bcells 0 false 1 (.cons (.msw 3 0) (.cons .nilS (.cons (.msw 4 0) (.cons (.int .i64) (.cons (.int .i64) (.cons (.int .i64) (.cons (.int .u64) .nil)))))))) (.cons (.bts 0 false false true yA) (.cons (.bts 0 false false true yC) .nil)))))⟩, ⟨.exit 2, [2, 3], (.cons (.ptr 1 0 0 0) (.cons (.ptr 2 0 0 0) .nil)), (.cons (.bcells 0 false 1 (.cons (.sl true true yA) (.cons (.sl true true yB) (.cons (.sl true true yC) (.cons (.int .i64) (.cons (.int .i64) (.cons (.int .i64) (.cons (.int .u64) .nil)))))))) (.cons (.bcells 0 false 1 (.cons .nilS (.cons .nilS (.cons .nilS (.cons (.int .i64) (.cons (.int .i64) (.cons (.int .i64) (.cons (.int .u64) .nil)))))))) (.cons (.bcells 0 false 1 (.cons (.msw 3 0) (.cons (.msw 4 0) (.cons (.msw 5 0) (.cons (.int .i64) (.cons (.int .i64) (.cons (.int .i64) (.cons (.int .u64) .nil)))))))) (.cons (.bts 0 false false true yA) (.cons (.bts 0 false false true yB) (.cons (.bts 0 false false true yC) .nil))))))⟩]
def qas_L2x1 (n : Nat) : LEntry := ⟨qas_h2x1, qas_o2x1, qas_W2x1 n⟩
def qas_res : List StSh := [⟨.ret, [0], (.cons (.agg (.cons (.sl false true yA) (.cons (.sl false true yB) (.cons (.sl false true yC) (.cons (.int .i64) (.cons (.int .i64) (.cons (.int .i64) (.cons (.int .u64) .nil)))))))) .nil), .nil⟩]
def qas_tbl (n : Nat) : FuncId → List Entry := fun f => []
def qas_loops (n : Nat) : Nat → Option LEntry := fun f => bif Nat.beq f 0 then some (qas_L0 n) else bif Nat.beq f 2 then some (qas_L2x1 n) else none
theorem qas_r0q0 (n : Nat) (t4 : Int) (m0 : DE) (m0_1 : DE) (m0_2 : DB) (m0_3 : Int) (m0_4 : Int) (m0_5 : Int) (m0_6 : Int) (m1 : Int) (m1_1 : Int) (m1_2 : Int) (m1_3 : Int) (m2 : Int) (m2_1 : Int) (m2_2 : Int) (m2_3 : Int) (m3 : DB) : roundK (real _) tab (qas_tbl n) (qas_loops n) qas_an [] qas_l0 0 [1, 2, 3, 4] qas_h0 qas_o0 (Sum.inl (t4, ((m0, (m0_1, (m0_2, (m0_3, (m0_4, (m0_5, m0_6)))))), ((m1, (m1_1, (m1_2, m1_3))), ((m2, (m2_1, (m2_2, m2_3))), m3))))) some = qas_B0q0 n t4 m0 m0_1 m0_2 m0_3 m0_4 m0_5 m0_6 m1 m1_1 m1_2 m1_3 m2 m2_1 m2_2 m2_3 m3 := by kernel_rfl
theorem qas_r0q1 (n : Nat) (t4 : Int) (m0 : DE) (m0_1 : DE) (m0_2 : DB) (m0_3 : Int) (m0_4 : Int) (m0_5 : Int) (m0_6 : Int) (m1 : Int) (m1_1 : Int) (m1_2 : Int) (m1_3 : Int) (m2 : Int) (m2_1 : Int) (m2_2 : Int) (m2_3 : Int) (m3 : DE) (m4 : DB) : roundK (real _) tab (qas_tbl n) (qas_loops n) qas_an [] qas_l0 0 [1, 2, 3, 4] qas_h0 qas_o0 (Sum.inr (t4, ((m0, (m0_1, (m0_2, (m0_3, (m0_4, (m0_5, m0_6)))))), ((m1, (m1_1, (m1_2, m1_3))), ((m2, (m2_1, (m2_2, m2_3))), (m3, m4)))))) some = qas_B0q1 n t4 m0 m0_1 m0_2 m0_3 m0_4 m0_5 m0_6 m1 m1_1 m1_2 m1_3 m2 m2_1 m2_2 m2_3 m3 m4 := by kernel_rfl
theorem qas_f0 (n : Nat) : LoopFact tab (qas_tbl n) (qas_loops n) qas_an [] n 0 qas_l0 (qas_L0 n) := ⟨[1, 2, 3, 4], (qas_M0 n), by kernel_rfl, by kernel_rfl, fun s => rfl, fun s => match s with | (Sum.inl a0) => qas_r0q0 n a0.1 a0.2.1.1 a0.2.1.2.1 a0.2.1.2.2.1 a0.2.1.2.2.2.1 a0.2.1.2.2.2.2.1 a0.2.1.2.2.2.2.2.1 a0.2.1.2.2.2.2.2.2 a0.2.2.1.1 a0.2.2.1.2.1 a0.2.2.1.2.2.1 a0.2.2.1.2.2.2 a0.2.2.2.1.1 a0.2.2.2.1.2.1 a0.2.2.2.1.2.2.1 a0.2.2.2.1.2.2.2 a0.2.2.2.2 | (Sum.inr a1) => qas_r0q1 n a1.1 a1.2.1.1 a1.2.1.2.1 a1.2.1.2.2.1 a1.2.1.2.2.2.1 a1.2.1.2.2.2.2.1 a1.2.1.2.2.2.2.2.1 a1.2.1.2.2.2.2.2.2 a1.2.2.1.1 a1.2.2.1.2.1 a1.2.2.1.2.2.1 a1.2.2.1.2.2.2 a1.2.2.2.1.1 a1.2.2.2.1.2.1 a1.2.2.2.1.2.2.1 a1.2.2.2.1.2.2.2 a1.2.2.2.2.1 a1.2.2.2.2.2⟩
theorem qas_r2x1q0 (n : Nat) (t6 : Int) (m0 : DE) (m0_1 : DE) (m0_2 : DB) (m0_3 : Int) (m0_4 : Int) (m0_5 : Int) (m0_6 : Int) (m1 : Int) (m1_1 : Int) (m1_2 : Int) (m1_3 : Int) (m2 : Int) (m2_1 : Int) (m2_2 : Int) (m2_3 : Int) (m3 : DB) : roundK (real _) tab (qas_tbl n) (qas_loops n) qas_an [] qas_l2 2 [1, 2, 3, 6] qas_h2x1 qas_o2x1 (Sum.inl (t6, ((m0, (m0_1, (m0_2, (m0_3, (m0_4, (m0_5, m0_6)))))), ((m1, (m1_1, (m1_2, m1_3))), ((m2, (m2_1, (m2_2, m2_3))), m3))))) some = qas_B2x1q0 n t6 m0 m0_1 m0_2 m0_3 m0_4 m0_5 m0_6 m1 m1_1 m1_2 m1_3 m2 m2_1 m2_2 m2_3 m3 := by kernel_rfl
theorem qas_r2x1q1 (n : Nat) (t6 : Int) (m0 : DE) (m0_1 : DE) (m0_2 : DB) (m0_3 : Int) (m0_4 : Int) (m0_5 : Int) (m0_6 : Int) (m1 : Int) (m1_1 : Int) (m1_2 : Int) (m1_3 : Int) (m2 : Int) (m2_1 : Int) (m2_2 : Int) (m2_3 : Int) (m3 : DE) (m4 : DB) : roundK (real _) tab (qas_tbl n) (qas_loops n) qas_an [] qas_l2 2 [1, 2, 3, 6] qas_h2x1 qas_o2x1 (Sum.inr (Sum.inl (t6, ((m0, (m0_1, (m0_2, (m0_3, (m0_4, (m0_5, m0_6)))))), ((m1, (m1_1, (m1_2, m1_3))), ((m2, (m2_1, (m2_2, m2_3))), (m3, m4))))))) some = qas_B2x1q1 n t6 m0 m0_1 m0_2 m0_3 m0_4 m0_5 m0_6 m1 m1_1 m1_2 m1_3 m2 m2_1 m2_2 m2_3 m3 m4 := by kernel_rfl
theorem qas_r2x1q2 (n : Nat) (t6 : Int) (m0 : DE) (m0_1 : DE) (m0_2 : DB) (m0_3 : Int) (m0_4 : Int) (m0_5 : Int) (m0_6 : Int) (m1 : Int) (m1_1 : Int) (m1_2 : Int) (m1_3 : Int) (m2 : Int) (m2_1 : Int) (m2_2 : Int) (m2_3 : Int) (m3 : DE) (m4 : DB) : roundK (real _) tab (qas_tbl n) (qas_loops n) qas_an [] qas_l2 2 [1, 2, 3, 6] qas_h2x1 qas_o2x1 (Sum.inr (Sum.inr (Sum.inl (t6, ((m0, (m0_1, (m0_2, (m0_3, (m0_4, (m0_5, m0_6)))))), ((m1, (m1_1, (m1_2, m1_3))), ((m2, (m2_1, (m2_2, m2_3))), (m3, m4)))))))) some = qas_B2x1q2 n t6 m0 m0_1 m0_2 m0_3 m0_4 m0_5 m0_6 m1 m1_1 m1_2 m1_3 m2 m2_1 m2_2 m2_3 m3 m4 := by kernel_rfl
theorem qas_r2x1q3 (n : Nat) (t6 : Int) (m0 : DE) (m0_1 : DE) (m0_2 : DB) (m0_3 : Int) (m0_4 : Int) (m0_5 : Int) (m0_6 : Int) (m1 : Int) (m1_1 : Int) (m1_2 : Int) (m1_3 : Int) (m2 : Int) (m2_1 : Int) (m2_2 : Int) (m2_3 : Int) (m3 : DE) (m4 : DE) (m5 : DB) : roundK (real _) tab (qas_tbl n) (qas_loops n) qas_an [] qas_l2 2 [1, 2, 3, 6] qas_h2x1 qas_o2x1 (Sum.inr (Sum.inr (Sum.inr (t6, ((m0, (m0_1, (m0_2, (m0_3, (m0_4, (m0_5, m0_6)))))), ((m1, (m1_1, (m1_2, m1_3))), ((m2, (m2_1, (m2_2, m2_3))), (m3, (m4, m5))))))))) some = qas_B2x1q3 n t6 m0 m0_1 m0_2 m0_3 m0_4 m0_5 m0_6 m1 m1_1 m1_2 m1_3 m2 m2_1 m2_2 m2_3 m3 m4 m5 := by kernel_rfl
theorem qas_f2x1 (n : Nat) : LoopFact tab (qas_tbl n) (qas_loops n) qas_an [] n 2 qas_l2 (qas_L2x1 n) := ⟨[1, 2, 3, 6], (qas_M2x1 n), by kernel_rfl, by kernel_rfl, fun s => rfl, fun s => match s with | (Sum.inl a0) => qas_r2x1q0 n a0.1 a0.2.1.1 a0.2.1.2.1 a0.2.1.2.2.1 a0.2.1.2.2.2.1 a0.2.1.2.2.2.2.1 a0.2.1.2.2.2.2.2.1 a0.2.1.2.2.2.2.2.2 a0.2.2.1.1 a0.2.2.1.2.1 a0.2.2.1.2.2.1 a0.2.2.1.2.2.2 a0.2.2.2.1.1 a0.2.2.2.1.2.1 a0.2.2.2.1.2.2.1 a0.2.2.2.1.2.2.2 a0.2.2.2.2 | (Sum.inr (Sum.inl a1)) => qas_r2x1q1 n a1.1 a1.2.1.1 a1.2.1.2.1 a1.2.1.2.2.1 a1.2.1.2.2.2.1 a1.2.1.2.2.2.2.1 a1.2.1.2.2.2.2.2.1 a1.2.1.2.2.2.2.2.2 a1.2.2.1.1 a1.2.2.1.2.1 a1.2.2.1.2.2.1 a1.2.2.1.2.2.2 a1.2.2.2.1.1 a1.2.2.2.1.2.1 a1.2.2.2.1.2.2.1 a1.2.2.2.1.2.2.2 a1.2.2.2.2.1 a1.2.2.2.2.2 | (Sum.inr (Sum.inr (Sum.inl a2))) => qas_r2x1q2 n a2.1 a2.2.1.1 a2.2.1.2.1 a2.2.1.2.2.1 a2.2.1.2.2.2.1 a2.2.1.2.2.2.2.1 a2.2.1.2.2.2.2.2.1 a2.2.1.2.2.2.2.2.2 a2.2.2.1.1 a2.2.2.1.2.1 a2.2.2.1.2.2.1 a2.2.2.1.2.2.2 a2.2.2.2.1.1 a2.2.2.2.1.2.1 a2.2.2.2.1.2.2.1 a2.2.2.2.1.2.2.2 a2.2.2.2.2.1 a2.2.2.2.2.2 | (Sum.inr (Sum.inr (Sum.inr a3))) => qas_r2x1q3 n a3.1 a3.2.1.1 a3.2.1.2.1 a3.2.1.2.2.1 a3.2.1.2.2.2.1 a3.2.1.2.2.2.2.1 a3.2.1.2.2.2.2.2.1 a3.2.1.2.2.2.2.2.2 a3.2.2.1.1 a3.2.2.1.2.1 a3.2.2.1.2.2.1 a3.2.2.1.2.2.2 a3.2.2.2.1.1 a3.2.2.2.1.2.1 a3.2.2.2.1.2.2.1 a3.2.2.2.1.2.2.2 a3.2.2.2.2.1 a3.2.2.2.2.2.1 a3.2.2.2.2.2.2⟩
theorem qas_run (n : Nat) (t0 : DE) (t0_1 : DE) (t0_2 : DB) (t0_3 : Int) (t0_4 : Int) (t0_5 : Int) (t0_6 : Int) : funDS (real _) tab (qas_tbl n) (qas_loops n) qas_an Try.f19 0 qas_a qas_res (t0, (t0_1, (t0_2, (t0_3, (t0_4, (t0_5, t0_6)))))) some = qas n t0 t0_1 t0_2 t0_3 t0_4 t0_5 t0_6 := by kernel_rfl
def qas_E (n : Nat) : Entry := ⟨qas_a, qas_res, fun d => qas n d.1 d.2.1 d.2.2.1 d.2.2.2.1 d.2.2.2.2.1 d.2.2.2.2.2.1 d.2.2.2.2.2.2⟩
theorem qas_ok (n : Nat) : EOK Try.prog 19 (qas_E n) :=
 EOK.ofS zc zb zj (tbl := qas_tbl n) (loops := qas_loops n) (an := qas_an) (old := []) (n := n) (c := qas_c) (fn := Try.f19) TblOK.nil (by kernel_rfl) (by kernel_rfl) (by kernel_rfl) (by kernel_rfl) (fun d => by kernel_rfl) (LT.cons (by kernel_rfl) (qas_f0 n) (LT.cons (by kernel_rfl) (qas_f2x1 n) LT.nil)) (fun a => qas_run n a.1 a.2.1 a.2.2.1 a.2.2.2.1 a.2.2.2.2.1 a.2.2.2.2.2.1 a.2.2.2.2.2.2)
def law20ImageOwn_h0 : List StSh := [⟨.normal, [2, 5, 6, 8, 9, 10], (.cons (.ptr 0 0 0 0) (.cons (.msw 1 0) (.cons (.ptr 2 0 0 0) (.cons (.int .i64) (.cons (.ptr 3 0 0 0) (.cons (.int .i64) .nil)))))), (.cons (.bcells 0 false 1 (.cons (.sl true true yA) (.cons (.sl true true yB) (.cons (.sl true true yC) (.cons (.int .i64) (.cons (.int .i64) (.cons (.int .i64) (.cons (.int .u64) .nil)))))))) (.cons (.bts 0 false false false (.int .u8)) (.cons (.bcells 0 false 1 (.cons (.sl false true yA) (.cons (.sl false true yB) (.cons (.sl false true yC) (.cons (.int .i64) (.cons (.int .i64) (.cons (.int .i64) (.cons (.int .u64) .nil)))))))) (.cons (.bcells 0 false 1 (.cons (.sl false true yA) (.cons (.sl false true yB) (.cons (.sl false true yC) (.cons (.int .i64) (.cons (.int .i64) (.cons (.int .i64) (.cons (.int .u64) .nil)))))))) .nil))))⟩]
def law20ImageOwn_o0 : List StSh := [⟨.exit 0, [2, 6, 8, 9], (.cons (.ptr 0 0 0 0) (.cons (.ptr 2 0 0 0) (.cons (.int .i64) (.cons (.ptr 3 0 0 0) .nil)))), (.cons (.bcells 0 false 1 (.cons (.sl true true yA) (.cons (.sl true true yB) (.cons (.sl true true yC) (.cons (.int .i64) (.cons (.int .i64) (.cons (.int .i64) (.cons (.int .u64) .nil)))))))) (.cons (.bts 0 false false false (.int .u8)) (.cons (.bcells 0 false 1 (.cons (.sl false true yA) (.cons (.sl false true yB) (.cons (.sl false true yC) (.cons (.int .i64) (.cons (.int .i64) (.cons (.int .i64) (.cons (.int .u64) .nil)))))))) (.cons (.bcells 0 false 1 (.cons (.sl false true yA) (.cons (.sl false true yB) (.cons (.sl false true yC) (.cons (.int .i64) (.cons (.int .i64) (.cons (.int .i64) (.cons (.int .u64) .nil)))))))) .nil))))⟩]
def law20ImageOwn_L0 (n : Nat) : LEntry := ⟨law20ImageOwn_h0, law20ImageOwn_o0, law20ImageOwn_W0 n⟩
def law20ImageOwn_res : List StSh := [⟨.ret, [0], (.cons .bool .nil), .nil⟩]
def law20ImageOwn_tbl (n : Nat) : FuncId → List Entry := fun f => bif Nat.beq f 10 then [qak_E n] else bif Nat.beq f 11 then [qy_E n] else bif Nat.beq f 16 then [qai_E n] else bif Nat.beq f 14 then [qah_E n] else bif Nat.beq f 15 then [qag_E n] else bif Nat.beq f 19 then [qas_E n] else bif Nat.beq f 17 then [qac_E n] else []
def law20ImageOwn_loops (n : Nat) : Nat → Option LEntry := fun f => bif Nat.beq f 0 then some (law20ImageOwn_L0 n) else none
theorem zeN (n : Nat) (e_8 : Int) (i_10 : Int) (m0 : DE) (m0_1 : DE) (m0_2 : DB) (m0_3 : Int) (m0_4 : Int) (m0_5 : Int) (m0_6 : Int) (m1 : DA) (m2 : DE) (m2_1 : DE) (m2_2 : DB) (m2_3 : Int) (m2_4 : Int) (m2_5 : Int) (m2_6 : Int) (m3 : DE) (m3_1 : DE) (m3_2 : DB) (m3_3 : Int) (m3_4 : Int) (m3_5 : Int) (m3_6 : Int) : roundK (real _) tab (law20ImageOwn_tbl n) (law20ImageOwn_loops n) law20ImageOwn_an [] law20ImageOwn_l0 0 [2, 5, 6, 8, 9, 10] law20ImageOwn_h0 law20ImageOwn_o0 ((e_8, i_10), ((m0, (m0_1, (m0_2, (m0_3, (m0_4, (m0_5, m0_6)))))), (m1, ((m2, (m2_1, (m2_2, (m2_3, (m2_4, (m2_5, m2_6)))))), (m3, (m3_1, (m3_2, (m3_3, (m3_4, (m3_5, m3_6)))))))))) some = law20ImageOwn_B0 n e_8 i_10 m0 m0_1 m0_2 m0_3 m0_4 m0_5 m0_6 m1 m2 m2_1 m2_2 m2_3 m2_4 m2_5 m2_6 m3 m3_1 m3_2 m3_3 m3_4 m3_5 m3_6 := by kernel_rfl
theorem zeW (n : Nat) : LoopFact tab (law20ImageOwn_tbl n) (law20ImageOwn_loops n) law20ImageOwn_an [] n 0 law20ImageOwn_l0 (law20ImageOwn_L0 n) := ⟨[2, 5, 6, 8, 9, 10], (fun s => law20ImageOwn_B0 n s.1.1 s.1.2 s.2.1.1 s.2.1.2.1 s.2.1.2.2.1 s.2.1.2.2.2.1 s.2.1.2.2.2.2.1 s.2.1.2.2.2.2.2.1 s.2.1.2.2.2.2.2.2 s.2.2.1 s.2.2.2.1.1 s.2.2.2.1.2.1 s.2.2.2.1.2.2.1 s.2.2.2.1.2.2.2.1 s.2.2.2.1.2.2.2.2.1 s.2.2.2.1.2.2.2.2.2.1 s.2.2.2.1.2.2.2.2.2.2 s.2.2.2.2.1 s.2.2.2.2.2.1 s.2.2.2.2.2.2.1 s.2.2.2.2.2.2.2.1 s.2.2.2.2.2.2.2.2.1 s.2.2.2.2.2.2.2.2.2.1 s.2.2.2.2.2.2.2.2.2.2), by kernel_rfl, by kernel_rfl, fun s => rfl, fun s => zeN n s.1.1 s.1.2 s.2.1.1 s.2.1.2.1 s.2.1.2.2.1 s.2.1.2.2.2.1 s.2.1.2.2.2.2.1 s.2.1.2.2.2.2.2.1 s.2.1.2.2.2.2.2.2 s.2.2.1 s.2.2.2.1.1 s.2.2.2.1.2.1 s.2.2.2.1.2.2.1 s.2.2.2.1.2.2.2.1 s.2.2.2.1.2.2.2.2.1 s.2.2.2.1.2.2.2.2.2.1 s.2.2.2.1.2.2.2.2.2.2 s.2.2.2.2.1 s.2.2.2.2.2.1 s.2.2.2.2.2.2.1 s.2.2.2.2.2.2.2.1 s.2.2.2.2.2.2.2.2.1 s.2.2.2.2.2.2.2.2.2.1 s.2.2.2.2.2.2.2.2.2.2⟩
theorem zel (n : Nat) (s_0 : DE) (s_0_1 : DE) (s_0_2 : DB) (s_0_3 : Int) (s_0_4 : Int) (s_0_5 : Int) (s_0_6 : Int) (print_1 : Int) : funDS (real _) tab (law20ImageOwn_tbl n) (law20ImageOwn_loops n) law20ImageOwn_an Try.f6 0 law20ImageOwn_a law20ImageOwn_res ((s_0, (s_0_1, (s_0_2, (s_0_3, (s_0_4, (s_0_5, s_0_6)))))), print_1) some = law20ImageOwn n s_0 s_0_1 s_0_2 s_0_3 s_0_4 s_0_5 s_0_6 print_1 := by kernel_rfl
def law20ImageOwn_E (n : Nat) : Entry := ⟨law20ImageOwn_a, law20ImageOwn_res, fun d => law20ImageOwn n d.1.1 d.1.2.1 d.1.2.2.1 d.1.2.2.2.1 d.1.2.2.2.2.1 d.1.2.2.2.2.2.1 d.1.2.2.2.2.2.2 d.2⟩
theorem zfa (n : Nat) : EOK Try.prog 6 (law20ImageOwn_E n) :=
 EOK.ofS zc zb zj (tbl := law20ImageOwn_tbl n) (loops := law20ImageOwn_loops n) (an := law20ImageOwn_an) (old := []) (n := n) (c := law20ImageOwn_c) (fn := Try.f6) (TblOK.cons (AllE.cons (qak_ok n) AllE.nil) (TblOK.cons (AllE.cons (qy_ok n) AllE.nil) (TblOK.cons (AllE.cons (qai_ok n) AllE.nil) (TblOK.cons (AllE.cons (qah_ok n) AllE.nil) (TblOK.cons (AllE.cons (qag_ok n) AllE.nil) (TblOK.cons (AllE.cons (qas_ok n) AllE.nil) (TblOK.cons (AllE.cons (qac_ok n) AllE.nil) TblOK.nil))))))) (by kernel_rfl) (by kernel_rfl) (by kernel_rfl) (by kernel_rfl) (fun d => by kernel_rfl) (LT.cons (by kernel_rfl) (zeW n) LT.nil) (fun a => zel n a.1.1 a.1.2.1 a.1.2.2.1 a.1.2.2.2.1 a.1.2.2.2.2.1 a.1.2.2.2.2.2.1 a.1.2.2.2.2.2.2 a.2)
end
end Sx
