import Derived.Test.YtmoldheenagboaaProg
import Derived.Test.YtmoldheenagboaaLib32
import Derived.Test.YtmoldheenagboaaImgFixB
import Derived.KernelRfl
open Go Go.Ab Go.Proofs
set_option linter.unusedVariables false
set_option maxRecDepth 20000
namespace Sx
noncomputable section
def qae_res : List StSh := [⟨.ret, [0], (.cons (.tup (.cons .nilP (.cons (.int .u32) (.cons (.int .i64) .nil)))) .nil), .nil⟩, ⟨.ret, [0], (.cons (.tup (.cons (.ptr 0 0 0 0) (.cons (.int .u32) (.cons (.int .i64) .nil)))) .nil), (.cons (.bcells 0 false 1 (.cons (.sl false false (.int .u8)) (.cons .bool .nil))) .nil)⟩]
def qae_tbl (n : Nat) : FuncId → List Entry := fun f => bif Nat.beq f 72 then [qao_E n] else bif Nat.beq f 73 then [qz_E n] else bif Nat.beq f 74 then [qp_E n] else bif Nat.beq f 55 then [qab_E n] else []
def qae_loops (n : Nat) : Nat → Option LEntry := fun f => none
theorem qae_run (n : Nat) (b_0 : DA) (first_1 : Int) : funDS (real _) tab (qae_tbl n) (qae_loops n) qae_an Try.f38 0 qae_a qae_res (b_0, first_1) some = qae n b_0 first_1 := by kernel_rfl
def qae_E (n : Nat) : Entry := ⟨qae_a, qae_res, fun d => qae n d.1 d.2⟩
theorem qae_ok (n : Nat) : EOK Try.prog 38 (qae_E n) :=
 EOK.ofS zc zb zg (tbl := qae_tbl n) (loops := qae_loops n) (an := qae_an) (old := []) (n := n) (c := qae_c) (fn := Try.f38) (TblOK.cons (AllE.cons (qao_ok n) AllE.nil) (TblOK.cons (AllE.cons (qz_ok n) AllE.nil) (TblOK.cons (AllE.cons (qp_ok n) AllE.nil) (TblOK.cons (AllE.cons (qab_ok n) AllE.nil) TblOK.nil)))) (by kernel_rfl) (by kernel_rfl) (by kernel_rfl) (by kernel_rfl) (fun d => by kernel_rfl) LT.nil (fun a => qae_run n a.1 a.2)
def qk_an : Ann := {}
def qk_c : Code := (match Try.f39.body with | some c => c | none => .skip)
def qk_a : StSh := ⟨.normal, [0], (.cons (.ptr 0 0 0 0) .nil), (.cons (.bcells 0 false 1 (.cons .nilP (.cons .bool .nil))) .nil)⟩
def qaa_an : Ann := { live := [(0, [0, 3, 4])] }
def qaa_c : Code := (match Try.f40.body with | some c => c | none => .skip)
def qaa_l0 : Code := (match assoc 0 (loopsIn qaa_c 0) with | some c => c | none => .skip)
def qaa_a : StSh := ⟨.normal, [0], (.cons .nilP .nil), .nil⟩
def qg_an : Ann := {}
def qg_c : Code := (match Try.f75.body with | some c => c | none => .skip)
def qg_a : StSh := ⟨.normal, [0, 1], (.cons .nilP (.cons (.int .i64) .nil)), .nil⟩
def qn_an : Ann := {}
def qn_c : Code := (match Try.f55.body with | some c => c | none => .skip)
def qn_a : StSh := ⟨.normal, [0], (.cons .nilP .nil), .nil⟩
def qn_res : List StSh := []
def qn_tbl (n : Nat) : FuncId → List Entry := fun f => []
def qn_loops (n : Nat) : Nat → Option LEntry := fun f => none
theorem qn_run (n : Nat) : funDS (real _) tab (qn_tbl n) (qn_loops n) qn_an Try.f55 0 qn_a qn_res () some = qn n := by kernel_rfl
def qn_E (n : Nat) : Entry := ⟨qn_a, qn_res, fun d => qn n⟩
theorem qn_ok (n : Nat) : EOK Try.prog 55 (qn_E n) :=
 EOK.ofS zc zb zg (tbl := qn_tbl n) (loops := qn_loops n) (an := qn_an) (old := []) (n := n) (c := qn_c) (fn := Try.f55) TblOK.nil (by kernel_rfl) (by kernel_rfl) (by kernel_rfl) (by kernel_rfl) (fun d => by kernel_rfl) LT.nil (fun a => qn_run n)
def qg_res : List StSh := []
def qg_tbl (n : Nat) : FuncId → List Entry := fun f => bif Nat.beq f 55 then [qn_E n] else []
def qg_loops (n : Nat) : Nat → Option LEntry := fun f => none
theorem qg_run (n : Nat) (n_1 : Int) : funDS (real _) tab (qg_tbl n) (qg_loops n) qg_an Try.f75 0 qg_a qg_res n_1 some = qg n n_1 := by kernel_rfl
def qg_E (n : Nat) : Entry := ⟨qg_a, qg_res, fun d => qg n d⟩
theorem qg_ok (n : Nat) : EOK Try.prog 75 (qg_E n) :=
 EOK.ofS zc zb zg (tbl := qg_tbl n) (loops := qg_loops n) (an := qg_an) (old := []) (n := n) (c := qg_c) (fn := Try.f75) (TblOK.cons (AllE.cons (qn_ok n) AllE.nil) TblOK.nil) (by kernel_rfl) (by kernel_rfl) (by kernel_rfl) (by kernel_rfl) (fun d => by kernel_rfl) LT.nil (fun a => qg_run n a)
def qaa_h0 : List StSh := [⟨.normal, [0, 3, 4], (.cons .nilP (.cons (.int .u64) (.cons (.int .i64) .nil))), .nil⟩]
def qaa_o0 : List StSh := []
def qaa_L0 (n : Nat) : LEntry := ⟨qaa_h0, qaa_o0, qaa_W0 n⟩
def qaa_res : List StSh := []
def qaa_tbl (n : Nat) : FuncId → List Entry := fun f => bif Nat.beq f 75 then [qg_E n] else []
def qaa_loops (n : Nat) : Nat → Option LEntry := fun f => bif Nat.beq f 0 then some (qaa_L0 n) else none
theorem qaa_r0 (n : Nat) (v_3 : Int) (k_4 : Int) : roundK (real _) tab (qaa_tbl n) (qaa_loops n) qaa_an [] qaa_l0 0 [0, 3, 4] qaa_h0 qaa_o0 (v_3, k_4) some = qaa_B0 n v_3 k_4 := by kernel_rfl
theorem qaa_f0 (n : Nat) : LoopFact tab (qaa_tbl n) (qaa_loops n) qaa_an [] n 0 qaa_l0 (qaa_L0 n) := ⟨[0, 3, 4], (fun s => qaa_B0 n s.1 s.2), by kernel_rfl, by kernel_rfl, fun s => rfl, fun s => qaa_r0 n s.1 s.2⟩
theorem qaa_run (n : Nat) : funDS (real _) tab (qaa_tbl n) (qaa_loops n) qaa_an Try.f40 0 qaa_a qaa_res () some = qaa n := by kernel_rfl
def qaa_E (n : Nat) : Entry := ⟨qaa_a, qaa_res, fun d => qaa n⟩
theorem qaa_ok (n : Nat) : EOK Try.prog 40 (qaa_E n) :=
 EOK.ofS zc zb zg (tbl := qaa_tbl n) (loops := qaa_loops n) (an := qaa_an) (old := []) (n := n) (c := qaa_c) (fn := Try.f40) (TblOK.cons (AllE.cons (qg_ok n) AllE.nil) TblOK.nil) (by kernel_rfl) (by kernel_rfl) (by kernel_rfl) (by kernel_rfl) (fun d => by kernel_rfl) (LT.cons (by kernel_rfl) (qaa_f0 n) LT.nil) (fun a => qaa_run n)
def qk_res : List StSh := []
def qk_tbl (n : Nat) : FuncId → List Entry := fun f => bif Nat.beq f 40 then [qaa_E n] else []
def qk_loops (n : Nat) : Nat → Option LEntry := fun f => none
theorem qk_run (n : Nat) (m0 : Bool) : funDS (real _) tab (qk_tbl n) (qk_loops n) qk_an Try.f39 1 qk_a qk_res m0 some = qk n m0 := by kernel_rfl
def qk_E (n : Nat) : Entry := ⟨qk_a, qk_res, fun d => qk n d⟩
theorem qk_ok (n : Nat) : EOK Try.prog 39 (qk_E n) :=
 EOK.ofS zc zb zg (tbl := qk_tbl n) (loops := qk_loops n) (an := qk_an) (old := [some true]) (n := n) (c := qk_c) (fn := Try.f39) (TblOK.cons (AllE.cons (qaa_ok n) AllE.nil) TblOK.nil) (by kernel_rfl) (by kernel_rfl) (by kernel_rfl) (by kernel_rfl) (fun d => by kernel_rfl) LT.nil (fun a => qk_run n a)
def qe_an : Ann := {}
def qe_c : Code := (match Try.f39.body with | some c => c | none => .skip)
def qe_a : StSh := ⟨.normal, [0], (.cons (.ptr 0 0 0 0) .nil), (.cons (.bcells 0 false 1 (.cons (.ptr 1 0 0 0) (.cons .bool .nil))) (.cons (.bcells 0 false 1 (.cons (.sl false false (.int .u8)) (.cons .bool .nil))) .nil))⟩
def qs_an : Ann := { live := [(0, [0, 3, 4])] }
def qs_c : Code := (match Try.f40.body with | some c => c | none => .skip)
def qs_l0 : Code := (match assoc 0 (loopsIn qs_c 0) with | some c => c | none => .skip)
def qs_a : StSh := ⟨.normal, [0], (.cons (.ptr 0 0 0 0) .nil), (.cons (.bcells 0 false 1 (.cons (.sl false false (.int .u8)) (.cons .bool .nil))) .nil)⟩
def qs_h0 : List StSh := [⟨.normal, [0, 3, 4], (.cons (.ptr 0 0 0 0) (.cons (.int .u64) (.cons (.int .i64) .nil))), (.cons (.bcells 0 false 1 (.cons (.sl false false (.int .u8)) (.cons .bool .nil))) .nil)⟩]
def qs_o0 : List StSh := [⟨.ret, [2], (.cons (.int .u64) .nil), (.cons (.bcells 0 false 1 (.cons (.sl false false (.int .u8)) (.cons .bool .nil))) .nil)⟩]
def qs_L0 (n : Nat) : LEntry := ⟨qs_h0, qs_o0, qs_W0 n⟩
def qs_res : List StSh := [⟨.ret, [0], (.cons (.int .u64) .nil), (.cons (.bcells 0 false 1 (.cons (.sl false false (.int .u8)) (.cons .bool .nil))) .nil)⟩]
def qs_tbl (n : Nat) : FuncId → List Entry := fun f => bif Nat.beq f 75 then [qw_E n] else bif Nat.beq f 76 then [qv_E n] else []
def qs_loops (n : Nat) : Nat → Option LEntry := fun f => bif Nat.beq f 0 then some (qs_L0 n) else none
theorem qs_r0 (n : Nat) (v_3 : Int) (k_4 : Int) (m0 : DA) (m0_1 : Bool) : roundK (real _) tab (qs_tbl n) (qs_loops n) qs_an [some true] qs_l0 0 [0, 3, 4] qs_h0 qs_o0 ((v_3, k_4), (m0, m0_1)) some = qs_B0 n v_3 k_4 m0 m0_1 := by kernel_rfl
theorem qs_f0 (n : Nat) : LoopFact tab (qs_tbl n) (qs_loops n) qs_an [some true] n 0 qs_l0 (qs_L0 n) := ⟨[0, 3, 4], (fun s => qs_B0 n s.1.1 s.1.2 s.2.1 s.2.2), by kernel_rfl, by kernel_rfl, fun s => rfl, fun s => qs_r0 n s.1.1 s.1.2 s.2.1 s.2.2⟩
theorem qs_run (n : Nat) (m0 : DA) (m0_1 : Bool) : funDS (real _) tab (qs_tbl n) (qs_loops n) qs_an Try.f40 1 qs_a qs_res (m0, m0_1) some = qs n m0 m0_1 := by kernel_rfl
def qs_E (n : Nat) : Entry := ⟨qs_a, qs_res, fun d => qs n d.1 d.2⟩
theorem qs_ok (n : Nat) : EOK Try.prog 40 (qs_E n) :=
 EOK.ofS zc zb zg (tbl := qs_tbl n) (loops := qs_loops n) (an := qs_an) (old := [some true]) (n := n) (c := qs_c) (fn := Try.f40) (TblOK.cons (AllE.cons (qw_ok n) AllE.nil) (TblOK.cons (AllE.cons (qv_ok n) AllE.nil) TblOK.nil)) (by kernel_rfl) (by kernel_rfl) (by kernel_rfl) (by kernel_rfl) (fun d => by kernel_rfl) (LT.cons (by kernel_rfl) (qs_f0 n) LT.nil) (fun a => qs_run n a.1 a.2)
def qe_res : List StSh := [⟨.ret, [0], (.cons (.int .i64) .nil), (.cons (.bcells 0 false 1 (.cons (.ptr 1 0 0 0) (.cons .bool .nil))) (.cons (.bcells 0 false 1 (.cons (.sl false false (.int .u8)) (.cons .bool .nil))) .nil))⟩]
def qe_tbl (n : Nat) : FuncId → List Entry := fun f => bif Nat.beq f 40 then [qs_E n] else []
def qe_loops (n : Nat) : Nat → Option LEntry := fun f => none
theorem qe_run (n : Nat) (m0 : Bool) (m1 : DA) (m1_1 : Bool) : funDS (real _) tab (qe_tbl n) (qe_loops n) qe_an Try.f39 2 qe_a qe_res (m0, (m1, m1_1)) some = qe n m0 m1 m1_1 := by kernel_rfl
def qe_E (n : Nat) : Entry := ⟨qe_a, qe_res, fun d => qe n d.1 d.2.1 d.2.2⟩
theorem qe_ok (n : Nat) : EOK Try.prog 39 (qe_E n) :=
 EOK.ofS zc zb zg (tbl := qe_tbl n) (loops := qe_loops n) (an := qe_an) (old := [some true, some true]) (n := n) (c := qe_c) (fn := Try.f39) (TblOK.cons (AllE.cons (qs_ok n) AllE.nil) TblOK.nil) (by kernel_rfl) (by kernel_rfl) (by kernel_rfl) (by kernel_rfl) (fun d => by kernel_rfl) LT.nil (fun a => qe_run n a.1 a.2.1 a.2.2)
def qb_an : Ann := { live := [(0, [0, 1, 5, 6])], boxed := [(1, 0), (5, 4)] }
def qb_c : Code := (match Try.f41.body with | some c => c | none => .skip)
def qb_l0 : Code := (match assoc 0 (loopsIn qb_c 0) with | some c => c | none => .skip)
def qb_a : StSh := ⟨.normal, [0, 1], (.cons (.ptr 0 0 0 0) (.cons (.fn 42 (.cons (.ptr 0 0 0 0) .nil) .nil) .nil)), (.cons (.bcells 0 false 1 (.cons (.ptr 1 0 0 0) (.cons .bool .nil))) (.cons (.bcells 0 false 1 (.cons (.sl false false (.int .u8)) (.cons .bool .nil))) .nil))⟩
def qc_an : Ann := {}
def qc_c : Code := (match Try.f47.body with | some c => c | none => .skip)
def qc_a : StSh := ⟨.normal, [0], (.cons (.ptr 0 0 0 0) .nil), (.cons (.bcells 0 false 1 (.cons (.ptr 1 0 0 0) (.cons .bool .nil))) (.cons (.bcells 0 false 1 (.cons (.sl false false (.int .u8)) (.cons .bool .nil))) .nil))⟩
def qc_res : List StSh := [⟨.ret, [0], (.cons .bool .nil), (.cons (.bcells 0 false 1 (.cons (.ptr 1 0 0 0) (.cons .bool .nil))) (.cons (.bcells 0 false 1 (.cons (.sl false false (.int .u8)) (.cons .bool .nil))) .nil))⟩]
def qc_tbl (n : Nat) : FuncId → List Entry := fun f => bif Nat.beq f 55 then [qab_E n] else []
def qc_loops (n : Nat) : Nat → Option LEntry := fun f => none
theorem qc_run (n : Nat) (m0 : Bool) (m1 : DA) (m1_1 : Bool) : funDS (real _) tab (qc_tbl n) (qc_loops n) qc_an Try.f47 2 qc_a qc_res (m0, (m1, m1_1)) some = qc n m0 m1 m1_1 := by kernel_rfl
def qc_E (n : Nat) : Entry := ⟨qc_a, qc_res, fun d => qc n d.1 d.2.1 d.2.2⟩
theorem qc_ok (n : Nat) : EOK Try.prog 47 (qc_E n) :=
 EOK.ofS zc zb zg (tbl := qc_tbl n) (loops := qc_loops n) (an := qc_an) (old := [some true, some true]) (n := n) (c := qc_c) (fn := Try.f47) (TblOK.cons (AllE.cons (qab_ok n) AllE.nil) TblOK.nil) (by kernel_rfl) (by kernel_rfl) (by kernel_rfl) (by kernel_rfl) (fun d => by kernel_rfl) LT.nil (fun a => qc_run n a.1 a.2.1 a.2.2)
def qf_an : Ann := {}
def qf_c : Code := (match Try.f42.body with | some c => c | none => .skip)
def qf_a : StSh := ⟨.normal, [0], (.cons (.ptr 0 0 0 0) .nil), (.cons (.bcells 0 false 1 (.cons (.ptr 1 0 0 0) (.cons .bool .nil))) (.cons (.bcells 0 false 1 (.cons (.sl false false (.int .u8)) (.cons .bool .nil))) .nil))⟩
def qh_an : Ann := { live := [(0, [0, 1, 5, 6])], boxed := [(1, 0), (5, 4)] }
def qh_c : Code := (match Try.f77.body with | some c => c | none => .skip)
def qh_l0 : Code := (match assoc 0 (loopsIn qh_c 0) with | some c => c | none => .skip)
def qh_a : StSh := ⟨.normal, [0, 1], (.cons (.ptr 0 0 0 0) (.cons (.fn 40 (.cons (.ptr 1 0 0 0) .nil) .nil) .nil)), (.cons (.bcells 0 false 1 (.cons (.ptr 1 0 0 0) (.cons .bool .nil))) (.cons (.bcells 0 false 1 (.cons (.sl false false (.int .u8)) (.cons .bool .nil))) .nil))⟩
def qh_h0 : List StSh := [⟨.normal, [0, 1, 5, 6], (.cons (.ptr 0 0 0 0) (.cons (.fn 40 (.cons (.ptr 1 0 0 0) .nil) .nil) (.cons (.msw 2 0) (.cons (.int .i64) .nil)))), (.cons (.bcells 0 false 1 (.cons (.ptr 1 0 0 0) (.cons .bool .nil))) (.cons (.bcells 0 false 1 (.cons (.sl false false (.int .u8)) (.cons .bool .nil))) (.cons (.bts 0 false false false (.int .u64)) .nil)))⟩]
def qh_o0 : List StSh := [⟨.exit 0, [5], (.cons (.msw 2 0) .nil), (.cons (.bcells 0 false 1 (.cons (.ptr 1 0 0 0) (.cons .bool .nil))) (.cons (.bcells 0 false 1 (.cons (.sl false false (.int .u8)) (.cons .bool .nil))) (.cons (.bts 0 false false false (.int .u64)) .nil)))⟩]
def qh_L0 (n : Nat) : LEntry := ⟨qh_h0, qh_o0, qh_W0 n⟩
def qh_res : List StSh := [⟨.ret, [0], (.cons (.sl false false (.int .u64)) .nil), (.cons (.bcells 0 false 1 (.cons (.ptr 1 0 0 0) (.cons .bool .nil))) (.cons (.bcells 0 false 1 (.cons (.sl false false (.int .u8)) (.cons .bool .nil))) .nil))⟩]
def qh_tbl (n : Nat) : FuncId → List Entry := fun f => bif Nat.beq f 39 then [qe_E n] else bif Nat.beq f 47 then [qc_E n] else bif Nat.beq f 40 then [qs_E n] else []
def qh_loops (n : Nat) : Nat → Option LEntry := fun f => bif Nat.beq f 0 then some (qh_L0 n) else none
theorem qh_r0 (n : Nat) (n_6 : Int) (m0 : Bool) (m1 : DA) (m1_1 : Bool) (m2 : DA) : roundK (real _) tab (qh_tbl n) (qh_loops n) qh_an [some true, some true] qh_l0 0 [0, 1, 5, 6] qh_h0 qh_o0 (n_6, (m0, ((m1, m1_1), m2))) some = qh_B0 n n_6 m0 m1 m1_1 m2 := by kernel_rfl
theorem qh_f0 (n : Nat) : LoopFact tab (qh_tbl n) (qh_loops n) qh_an [some true, some true] n 0 qh_l0 (qh_L0 n) := ⟨[0, 1, 5, 6], (fun s => qh_B0 n s.1 s.2.1 s.2.2.1.1 s.2.2.1.2 s.2.2.2), by kernel_rfl, by kernel_rfl, fun s => rfl, fun s => qh_r0 n s.1 s.2.1 s.2.2.1.1 s.2.2.1.2 s.2.2.2⟩
theorem qh_run (n : Nat) (m0 : Bool) (m1 : DA) (m1_1 : Bool) : funDS (real _) tab (qh_tbl n) (qh_loops n) qh_an Try.f77 2 qh_a qh_res (m0, (m1, m1_1)) some = qh n m0 m1 m1_1 := by kernel_rfl
def qh_E (n : Nat) : Entry := ⟨qh_a, qh_res, fun d => qh n d.1 d.2.1 d.2.2⟩
theorem qh_ok (n : Nat) : EOK Try.prog 77 (qh_E n) :=
 EOK.ofS zc zb zg (tbl := qh_tbl n) (loops := qh_loops n) (an := qh_an) (old := [some true, some true]) (n := n) (c := qh_c) (fn := Try.f77) (TblOK.cons (AllE.cons (qe_ok n) AllE.nil) (TblOK.cons (AllE.cons (qc_ok n) AllE.nil) (TblOK.cons (AllE.cons (qs_ok n) AllE.nil) TblOK.nil))) (by kernel_rfl) (by kernel_rfl) (by kernel_rfl) (by kernel_rfl) (fun d => by kernel_rfl) (LT.cons (by kernel_rfl) (qh_f0 n) LT.nil) (fun a => qh_run n a.1 a.2.1 a.2.2)
def qf_res : List StSh := [⟨.ret, [0], (.cons (.agg (.cons (.int .i64) (.cons (.int .i64) (.cons (.sl false false (.int .u64)) (.cons (.sl false false (.int .u64)) .nil))))) .nil), (.cons (.bcells 0 false 1 (.cons (.ptr 1 0 0 0) (.cons .bool .nil))) (.cons (.bcells 0 false 1 (.cons (.sl false false (.int .u8)) (.cons .bool .nil))) .nil))⟩]
def qf_tbl (n : Nat) : FuncId → List Entry := fun f => bif Nat.beq f 39 then [qe_E n] else bif Nat.beq f 77 then [qh_E n] else []
def qf_loops (n : Nat) : Nat → Option LEntry := fun f => none
theorem qf_run (n : Nat) (m0 : Bool) (m1 : DA) (m1_1 : Bool) : funDS (real _) tab (qf_tbl n) (qf_loops n) qf_an Try.f42 2 qf_a qf_res (m0, (m1, m1_1)) some = qf n m0 m1 m1_1 := by kernel_rfl
def qf_E (n : Nat) : Entry := ⟨qf_a, qf_res, fun d => qf n d.1 d.2.1 d.2.2⟩
theorem qf_ok (n : Nat) : EOK Try.prog 42 (qf_E n) :=
 EOK.ofS zc zb zg (tbl := qf_tbl n) (loops := qf_loops n) (an := qf_an) (old := [some true, some true]) (n := n) (c := qf_c) (fn := Try.f42) (TblOK.cons (AllE.cons (qe_ok n) AllE.nil) (TblOK.cons (AllE.cons (qh_ok n) AllE.nil) TblOK.nil)) (by kernel_rfl) (by kernel_rfl) (by kernel_rfl) (by kernel_rfl) (fun d => by kernel_rfl) LT.nil (fun a => qf_run n a.1 a.2.1 a.2.2)
def qb_h0 : List StSh := [⟨.normal, [0, 1, 5, 6], (.cons (.ptr 0 0 0 0) (.cons (.fn 42 (.cons (.ptr 0 0 0 0) .nil) .nil) (.cons (.msw 2 0) (.cons (.int .i64) .nil)))), (.cons (.bcells 0 false 1 (.cons (.ptr 1 0 0 0) (.cons .bool .nil))) (.cons (.bcells 0 false 1 (.cons (.sl false false (.int .u8)) (.cons .bool .nil))) (.cons (.bts 0 false false true yA) .nil)))⟩]
def qb_o0 : List StSh := [⟨.exit 0, [5], (.cons (.msw 2 0) .nil), (.cons (.bcells 0 false 1 (.cons (.ptr 1 0 0 0) (.cons .bool .nil))) (.cons (.bcells 0 false 1 (.cons (.sl false false (.int .u8)) (.cons .bool .nil))) (.cons (.bts 0 false false true yA) .nil)))⟩]
def qb_L0 (n : Nat) : LEntry := ⟨qb_h0, qb_o0, qb_W0 n⟩
def qb_res : List StSh := [⟨.ret, [0], (.cons (.sl false true yA) .nil), (.cons (.bcells 0 false 1 (.cons (.ptr 1 0 0 0) (.cons .bool .nil))) (.cons (.bcells 0 false 1 (.cons (.sl false false (.int .u8)) (.cons .bool .nil))) .nil))⟩]
def qb_tbl (n : Nat) : FuncId → List Entry := fun f => bif Nat.beq f 39 then [qe_E n] else bif Nat.beq f 47 then [qc_E n] else bif Nat.beq f 42 then [qf_E n] else []
def qb_loops (n : Nat) : Nat → Option LEntry := fun f => bif Nat.beq f 0 then some (qb_L0 n) else none
theorem qb_r0 (n : Nat) (n_6 : Int) (m0 : Bool) (m1 : DA) (m1_1 : Bool) (m2 : DE) : roundK (real _) tab (qb_tbl n) (qb_loops n) qb_an [some true, some true] qb_l0 0 [0, 1, 5, 6] qb_h0 qb_o0 (n_6, (m0, ((m1, m1_1), m2))) some = qb_B0 n n_6 m0 m1 m1_1 m2 := by kernel_rfl
theorem qb_f0 (n : Nat) : LoopFact tab (qb_tbl n) (qb_loops n) qb_an [some true, some true] n 0 qb_l0 (qb_L0 n) := ⟨[0, 1, 5, 6], (fun s => qb_B0 n s.1 s.2.1 s.2.2.1.1 s.2.2.1.2 s.2.2.2), by kernel_rfl, by kernel_rfl, fun s => rfl, fun s => qb_r0 n s.1 s.2.1 s.2.2.1.1 s.2.2.1.2 s.2.2.2⟩
theorem qb_run (n : Nat) (m0 : Bool) (m1 : DA) (m1_1 : Bool) : funDS (real _) tab (qb_tbl n) (qb_loops n) qb_an Try.f41 2 qb_a qb_res (m0, (m1, m1_1)) some = qb n m0 m1 m1_1 := by kernel_rfl
def qb_E (n : Nat) : Entry := ⟨qb_a, qb_res, fun d => qb n d.1 d.2.1 d.2.2⟩
theorem qb_ok (n : Nat) : EOK Try.prog 41 (qb_E n) :=
 EOK.ofS zc zb zg (tbl := qb_tbl n) (loops := qb_loops n) (an := qb_an) (old := [some true, some true]) (n := n) (c := qb_c) (fn := Try.f41) (TblOK.cons (AllE.cons (qe_ok n) AllE.nil) (TblOK.cons (AllE.cons (qc_ok n) AllE.nil) (TblOK.cons (AllE.cons (qf_ok n) AllE.nil) TblOK.nil))) (by kernel_rfl) (by kernel_rfl) (by kernel_rfl) (by kernel_rfl) (fun d => by kernel_rfl) (LT.cons (by kernel_rfl) (qb_f0 n) LT.nil) (fun a => qb_run n a.1 a.2.1 a.2.2)
def qi_an : Ann := { live := [(0, [0, 1, 5, 6])], boxed := [(1, 0), (5, 4)] }
def qi_c : Code := (match Try.f43.body with | some c => c | none => .skip)
def qi_l0 : Code := (match assoc 0 (loopsIn qi_c 0) with | some c => c | none => .skip)
def qi_a : StSh := ⟨.normal, [0, 1], (.cons (.ptr 0 0 0 0) (.cons (.fn 44 (.cons (.ptr 0 0 0 0) .nil) .nil) .nil)), (.cons (.bcells 0 false 1 (.cons (.ptr 1 0 0 0) (.cons .bool .nil))) (.cons (.bcells 0 false 1 (.cons (.sl false false (.int .u8)) (.cons .bool .nil))) .nil))⟩
def qt_an : Ann := {}
def qt_c : Code := (match Try.f44.body with | some c => c | none => .skip)
def qt_a : StSh := ⟨.normal, [0], (.cons (.ptr 0 0 0 0) .nil), (.cons (.bcells 0 false 1 (.cons (.ptr 1 0 0 0) (.cons .bool .nil))) (.cons (.bcells 0 false 1 (.cons (.sl false false (.int .u8)) (.cons .bool .nil))) .nil))⟩
def qt_res : List StSh := [⟨.ret, [0], (.cons (.agg (.cons (.int .i64) (.cons (.int .i64) (.cons (.sl false false (.int .u64)) (.cons (.sl false false (.int .u8)) .nil))))) .nil), (.cons (.bcells 0 false 1 (.cons (.ptr 1 0 0 0) (.cons .bool .nil))) (.cons (.bcells 0 false 1 (.cons (.sl false false (.int .u8)) (.cons .bool .nil))) .nil))⟩]
def qt_tbl (n : Nat) : FuncId → List Entry := fun f => bif Nat.beq f 39 then [qe_E n] else bif Nat.beq f 77 then [qh_E n] else bif Nat.beq f 75 then [qw_E n] else []
def qt_loops (n : Nat) : Nat → Option LEntry := fun f => none
theorem qt_run (n : Nat) (m0 : Bool) (m1 : DA) (m1_1 : Bool) : funDS (real _) tab (qt_tbl n) (qt_loops n) qt_an Try.f44 2 qt_a qt_res (m0, (m1, m1_1)) some = qt n m0 m1 m1_1 := by kernel_rfl
def qt_E (n : Nat) : Entry := ⟨qt_a, qt_res, fun d => qt n d.1 d.2.1 d.2.2⟩
theorem qt_ok (n : Nat) : EOK Try.prog 44 (qt_E n) :=
 EOK.ofS zc zb zg (tbl := qt_tbl n) (loops := qt_loops n) (an := qt_an) (old := [some true, some true]) (n := n) (c := qt_c) (fn := Try.f44) (TblOK.cons (AllE.cons (qe_ok n) AllE.nil) (TblOK.cons (AllE.cons (qh_ok n) AllE.nil) (TblOK.cons (AllE.cons (qw_ok n) AllE.nil) TblOK.nil))) (by kernel_rfl) (by kernel_rfl) (by kernel_rfl) (by kernel_rfl) (fun d => by kernel_rfl) LT.nil (fun a => qt_run n a.1 a.2.1 a.2.2)
def qi_h0 : List StSh := [⟨.normal, [0, 1, 5, 6], (.cons (.ptr 0 0 0 0) (.cons (.fn 44 (.cons (.ptr 0 0 0 0) .nil) .nil) (.cons (.msw 2 0) (.cons (.int .i64) .nil)))), (.cons (.bcells 0 false 1 (.cons (.ptr 1 0 0 0) (.cons .bool .nil))) (.cons (.bcells 0 false 1 (.cons (.sl false false (.int .u8)) (.cons .bool .nil))) (.cons (.bts 0 false false true yB) .nil)))⟩]
def qi_o0 : List StSh := [⟨.exit 0, [5], (.cons (.msw 2 0) .nil), (.cons (.bcells 0 false 1 (.cons (.ptr 1 0 0 0) (.cons .bool .nil))) (.cons (.bcells 0 false 1 (.cons (.sl false false (.int .u8)) (.cons .bool .nil))) (.cons (.bts 0 false false true yB) .nil)))⟩]
def qi_L0 (n : Nat) : LEntry := ⟨qi_h0, qi_o0, qi_W0 n⟩
def qi_res : List StSh := [⟨.ret, [0], (.cons (.sl false true yB) .nil), (.cons (.bcells 0 false 1 (.cons (.ptr 1 0 0 0) (.cons .bool .nil))) (.cons (.bcells 0 false 1 (.cons (.sl false false (.int .u8)) (.cons .bool .nil))) .nil))⟩]
def qi_tbl (n : Nat) : FuncId → List Entry := fun f => bif Nat.beq f 39 then [qe_E n] else bif Nat.beq f 47 then [qc_E n] else bif Nat.beq f 44 then [qt_E n] else []
def qi_loops (n : Nat) : Nat → Option LEntry := fun f => bif Nat.beq f 0 then some (qi_L0 n) else none
theorem qi_r0 (n : Nat) (n_6 : Int) (m0 : Bool) (m1 : DA) (m1_1 : Bool) (m2 : DE) : roundK (real _) tab (qi_tbl n) (qi_loops n) qi_an [some true, some true] qi_l0 0 [0, 1, 5, 6] qi_h0 qi_o0 (n_6, (m0, ((m1, m1_1), m2))) some = qi_B0 n n_6 m0 m1 m1_1 m2 := by kernel_rfl
theorem qi_f0 (n : Nat) : LoopFact tab (qi_tbl n) (qi_loops n) qi_an [some true, some true] n 0 qi_l0 (qi_L0 n) := ⟨[0, 1, 5, 6], (fun s => qi_B0 n s.1 s.2.1 s.2.2.1.1 s.2.2.1.2 s.2.2.2), by kernel_rfl, by kernel_rfl, fun s => rfl, fun s => qi_r0 n s.1 s.2.1 s.2.2.1.1 s.2.2.1.2 s.2.2.2⟩
theorem qi_run (n : Nat) (m0 : Bool) (m1 : DA) (m1_1 : Bool) : funDS (real _) tab (qi_tbl n) (qi_loops n) qi_an Try.f43 2 qi_a qi_res (m0, (m1, m1_1)) some = qi n m0 m1 m1_1 := by kernel_rfl
def qi_E (n : Nat) : Entry := ⟨qi_a, qi_res, fun d => qi n d.1 d.2.1 d.2.2⟩
theorem qi_ok (n : Nat) : EOK Try.prog 43 (qi_E n) :=
 EOK.ofS zc zb zg (tbl := qi_tbl n) (loops := qi_loops n) (an := qi_an) (old := [some true, some true]) (n := n) (c := qi_c) (fn := Try.f43) (TblOK.cons (AllE.cons (qe_ok n) AllE.nil) (TblOK.cons (AllE.cons (qc_ok n) AllE.nil) (TblOK.cons (AllE.cons (qt_ok n) AllE.nil) TblOK.nil))) (by kernel_rfl) (by kernel_rfl) (by kernel_rfl) (by kernel_rfl) (fun d => by kernel_rfl) (LT.cons (by kernel_rfl) (qi_f0 n) LT.nil) (fun a => qi_run n a.1 a.2.1 a.2.2)
def qa_an : Ann := { live := [(0, [0, 1, 5, 6])], boxed := [(1, 0), (5, 4)] }
def qa_c : Code := (match Try.f45.body with | some c => c | none => .skip)
def qa_l0 : Code := (match assoc 0 (loopsIn qa_c 0) with | some c => c | none => .skip)
def qa_a : StSh := ⟨.normal, [0, 1], (.cons (.ptr 0 0 0 0) (.cons (.fn 46 (.cons (.ptr 0 0 0 0) .nil) .nil) .nil)), (.cons (.bcells 0 false 1 (.cons (.ptr 1 0 0 0) (.cons .bool .nil))) (.cons (.bcells 0 false 1 (.cons (.sl false false (.int .u8)) (.cons .bool .nil))) .nil))⟩
def qo_an : Ann := {}
def qo_c : Code := (match Try.f46.body with | some c => c | none => .skip)
def qo_a : StSh := ⟨.normal, [0], (.cons (.ptr 0 0 0 0) .nil), (.cons (.bcells 0 false 1 (.cons (.ptr 1 0 0 0) (.cons .bool .nil))) (.cons (.bcells 0 false 1 (.cons (.sl false false (.int .u8)) (.cons .bool .nil))) .nil))⟩
def qo_res : List StSh := [⟨.ret, [0], (.cons (.agg (.cons (.int .i64) (.cons (.int .u64) (.cons .bool .nil)))) .nil), (.cons (.bcells 0 false 1 (.cons (.ptr 1 0 0 0) (.cons .bool .nil))) (.cons (.bcells 0 false 1 (.cons (.sl false false (.int .u8)) (.cons .bool .nil))) .nil))⟩]
def qo_tbl (n : Nat) : FuncId → List Entry := fun f => bif Nat.beq f 39 then [qe_E n] else bif Nat.beq f 40 then [qs_E n] else []
def qo_loops (n : Nat) : Nat → Option LEntry := fun f => none
theorem qo_run (n : Nat) (m0 : Bool) (m1 : DA) (m1_1 : Bool) : funDS (real _) tab (qo_tbl n) (qo_loops n) qo_an Try.f46 2 qo_a qo_res (m0, (m1, m1_1)) some = qo n m0 m1 m1_1 := by kernel_rfl
def qo_E (n : Nat) : Entry := ⟨qo_a, qo_res, fun d => qo n d.1 d.2.1 d.2.2⟩
theorem qo_ok (n : Nat) : EOK Try.prog 46 (qo_E n) :=
 EOK.ofS zc zb zg (tbl := qo_tbl n) (loops := qo_loops n) (an := qo_an) (old := [some true, some true]) (n := n) (c := qo_c) (fn := Try.f46) (TblOK.cons (AllE.cons (qe_ok n) AllE.nil) (TblOK.cons (AllE.cons (qs_ok n) AllE.nil) TblOK.nil)) (by kernel_rfl) (by kernel_rfl) (by kernel_rfl) (by kernel_rfl) (fun d => by kernel_rfl) LT.nil (fun a => qo_run n a.1 a.2.1 a.2.2)
def qa_h0 : List StSh := [⟨.normal, [0, 1, 5, 6], (.cons (.ptr 0 0 0 0) (.cons (.fn 46 (.cons (.ptr 0 0 0 0) .nil) .nil) (.cons (.msw 2 0) (.cons (.int .i64) .nil)))), (.cons (.bcells 0 false 1 (.cons (.ptr 1 0 0 0) (.cons .bool .nil))) (.cons (.bcells 0 false 1 (.cons (.sl false false (.int .u8)) (.cons .bool .nil))) (.cons (.bts 0 false false true yC) .nil)))⟩]
def qa_o0 : List StSh := [⟨.exit 0, [5], (.cons (.msw 2 0) .nil), (.cons (.bcells 0 false 1 (.cons (.ptr 1 0 0 0) (.cons .bool .nil))) (.cons (.bcells 0 false 1 (.cons (.sl false false (.int .u8)) (.cons .bool .nil))) (.cons (.bts 0 false false true yC) .nil)))⟩]
def qa_L0 (n : Nat) : LEntry := ⟨qa_h0, qa_o0, qa_W0 n⟩
def qa_res : List StSh := [⟨.ret, [0], (.cons (.sl false true yC) .nil), (.cons (.bcells 0 false 1 (.cons (.ptr 1 0 0 0) (.cons .bool .nil))) (.cons (.bcells 0 false 1 (.cons (.sl false false (.int .u8)) (.cons .bool .nil))) .nil))⟩]
def qa_tbl (n : Nat) : FuncId → List Entry := fun f => bif Nat.beq f 39 then [qe_E n] else bif Nat.beq f 47 then [qc_E n] else bif Nat.beq f 46 then [qo_E n] else []
def qa_loops (n : Nat) : Nat → Option LEntry := fun f => bif Nat.beq f 0 then some (qa_L0 n) else none
theorem qa_r0 (n : Nat) (n_6 : Int) (m0 : Bool) (m1 : DA) (m1_1 : Bool) (m2 : DB) : roundK (real _) tab (qa_tbl n) (qa_loops n) qa_an [some true, some true] qa_l0 0 [0, 1, 5, 6] qa_h0 qa_o0 (n_6, (m0, ((m1, m1_1), m2))) some = qa_B0 n n_6 m0 m1 m1_1 m2 := by kernel_rfl
theorem qa_f0 (n : Nat) : LoopFact tab (qa_tbl n) (qa_loops n) qa_an [some true, some true] n 0 qa_l0 (qa_L0 n) := ⟨[0, 1, 5, 6], (fun s => qa_B0 n s.1 s.2.1 s.2.2.1.1 s.2.2.1.2 s.2.2.2), by kernel_rfl, by kernel_rfl, fun s => rfl, fun s => qa_r0 n s.1 s.2.1 s.2.2.1.1 s.2.2.1.2 s.2.2.2⟩
theorem qa_run (n : Nat) (m0 : Bool) (m1 : DA) (m1_1 : Bool) : funDS (real _) tab (qa_tbl n) (qa_loops n) qa_an Try.f45 2 qa_a qa_res (m0, (m1, m1_1)) some = qa n m0 m1 m1_1 := by kernel_rfl
def qa_E (n : Nat) : Entry := ⟨qa_a, qa_res, fun d => qa n d.1 d.2.1 d.2.2⟩
theorem qa_ok (n : Nat) : EOK Try.prog 45 (qa_E n) :=
 EOK.ofS zc zb zg (tbl := qa_tbl n) (loops := qa_loops n) (an := qa_an) (old := [some true, some true]) (n := n) (c := qa_c) (fn := Try.f45) (TblOK.cons (AllE.cons (qe_ok n) AllE.nil) (TblOK.cons (AllE.cons (qc_ok n) AllE.nil) (TblOK.cons (AllE.cons (qo_ok n) AllE.nil) TblOK.nil))) (by kernel_rfl) (by kernel_rfl) (by kernel_rfl) (by kernel_rfl) (fun d => by kernel_rfl) (LT.cons (by kernel_rfl) (qa_f0 n) LT.nil) (fun a => qa_run n a.1 a.2.1 a.2.2)
def qu_an : Ann := {}
def qu_c : Code := (match Try.f48.body with | some c => c | none => .skip)
def qu_a : StSh := ⟨.normal, [0], (.cons (.ptr 0 0 0 0) .nil), (.cons (.bcells 0 false 1 (.cons (.sl false false (.int .u8)) (.cons .bool .nil))) .nil)⟩
def qu_res : List StSh := [⟨.ret, [0], (.cons (.int .i64) .nil), (.cons (.bcells 0 false 1 (.cons (.sl false false (.int .u8)) (.cons .bool .nil))) .nil)⟩]
def qu_tbl (n : Nat) : FuncId → List Entry := fun f => bif Nat.beq f 55 then [qab_E n] else []
def qu_loops (n : Nat) : Nat → Option LEntry := fun f => none
theorem qu_run (n : Nat) (m0 : DA) (m0_1 : Bool) : funDS (real _) tab (qu_tbl n) (qu_loops n) qu_an Try.f48 1 qu_a qu_res (m0, m0_1) some = qu n m0 m0_1 := by kernel_rfl
def qu_E (n : Nat) : Entry := ⟨qu_a, qu_res, fun d => qu n d.1 d.2⟩
theorem qu_ok (n : Nat) : EOK Try.prog 48 (qu_E n) :=
 EOK.ofS zc zb zg (tbl := qu_tbl n) (loops := qu_loops n) (an := qu_an) (old := [some true]) (n := n) (c := qu_c) (fn := Try.f48) (TblOK.cons (AllE.cons (qab_ok n) AllE.nil) TblOK.nil) (by kernel_rfl) (by kernel_rfl) (by kernel_rfl) (by kernel_rfl) (fun d => by kernel_rfl) LT.nil (fun a => qu_run n a.1 a.2)
def qaf_res : List StSh := [⟨.ret, [0], (.cons (.tup (.cons (.agg (.cons (.sl false true yA) (.cons (.sl false true yB) (.cons (.sl false true yC) (.cons (.int .i64) (.cons (.int .i64) (.cons (.int .i64) (.cons (.int .u64) .nil)))))))) (.cons (.int .u32) (.cons (.int .i64) .nil)))) .nil), .nil⟩]
def qaf_tbl (n : Nat) : FuncId → List Entry := fun f => bif Nat.beq f 38 then [qae_E n] else bif Nat.beq f 39 then [qk_E n, qe_E n] else bif Nat.beq f 40 then [qs_E n] else bif Nat.beq f 41 then [qb_E n] else bif Nat.beq f 43 then [qi_E n] else bif Nat.beq f 45 then [qa_E n] else bif Nat.beq f 47 then [qc_E n] else bif Nat.beq f 48 then [qu_E n] else []
def qaf_loops (n : Nat) : Nat → Option LEntry := fun f => none
theorem qaf_run (n : Nat) (b_0 : DA) : funDS (real _) tab (qaf_tbl n) (qaf_loops n) qaf_an Try.f15 0 qaf_a qaf_res b_0 some = qaf n b_0 := by kernel_rfl
def qaf_E (n : Nat) : Entry := ⟨qaf_a, qaf_res, fun d => qaf n d⟩
theorem qaf_ok (n : Nat) : EOK Try.prog 15 (qaf_E n) :=
 EOK.ofS zc zb zg (tbl := qaf_tbl n) (loops := qaf_loops n) (an := qaf_an) (old := []) (n := n) (c := qaf_c) (fn := Try.f15) (TblOK.cons (AllE.cons (qae_ok n) AllE.nil) (TblOK.cons (AllE.cons (qk_ok n) (AllE.cons (qe_ok n) AllE.nil)) (TblOK.cons (AllE.cons (qs_ok n) AllE.nil) (TblOK.cons (AllE.cons (qb_ok n) AllE.nil) (TblOK.cons (AllE.cons (qi_ok n) AllE.nil) (TblOK.cons (AllE.cons (qa_ok n) AllE.nil) (TblOK.cons (AllE.cons (qc_ok n) AllE.nil) (TblOK.cons (AllE.cons (qu_ok n) AllE.nil) TblOK.nil)))))))) (by kernel_rfl) (by kernel_rfl) (by kernel_rfl) (by kernel_rfl) (fun d => by kernel_rfl) LT.nil (fun a => qaf_run n a)
def qx_res : List StSh := [⟨.ret, [0], (.cons .bool .nil), .nil⟩]
def qx_tbl (n : Nat) : FuncId → List Entry := fun f => bif Nat.beq f 12 then [qac_E n] else bif Nat.beq f 15 then [qaf_E n] else []
def qx_loops (n : Nat) : Nat → Option LEntry := fun f => none
theorem qx_run (n : Nat) : funDS (real _) tab (qx_tbl n) (qx_loops n) qx_an Try.f11 0 qx_a qx_res () some = qx n := by kernel_rfl
def qx_E (n : Nat) : Entry := ⟨qx_a, qx_res, fun d => qx n⟩
theorem qx_ok (n : Nat) : EOK Try.prog 11 (qx_E n) :=
 EOK.ofS zc zb zg (tbl := qx_tbl n) (loops := qx_loops n) (an := qx_an) (old := []) (n := n) (c := qx_c) (fn := Try.f11) (TblOK.cons (AllE.cons (qac_ok n) AllE.nil) (TblOK.cons (AllE.cons (qaf_ok n) AllE.nil) TblOK.nil)) (by kernel_rfl) (by kernel_rfl) (by kernel_rfl) (by kernel_rfl) (fun d => by kernel_rfl) LT.nil (fun a => qx_run n)
def qag_an : Ann := { live := [(0, [0, 1, 5, 6])], boxed := [(1, 0), (5, 5)] }
def qag_c : Code := (match Try.f34.body with | some c => c | none => .skip)
def qag_l0 : Code := (match assoc 0 (loopsIn qag_c 0) with | some c => c | none => .skip)
def qag_a : StSh := ⟨.normal, [0, 1], (.cons (.int .u64) (.cons (.int .i64) .nil)), .nil⟩
def qag_h0 : List StSh := [⟨.normal, [0, 1, 5, 6], (.cons (.int .u64) (.cons (.int .i64) (.cons (.msw 0 0) (.cons (.int .i64) .nil)))), (.cons (.bts 0 false false false (.int .u8)) .nil)⟩]
def qag_o0 : List StSh := [⟨.exit 0, [5], (.cons (.msw 0 0) .nil), (.cons (.bts 0 false false false (.int .u8)) .nil)⟩]
def qag_L0 (n : Nat) : LEntry := ⟨qag_h0, qag_o0, qag_W0 n⟩
def qag_res : List StSh := [⟨.ret, [0], (.cons (.sl false false (.int .u8)) .nil), .nil⟩]
def qag_tbl (n : Nat) : FuncId → List Entry := fun f => []
def qag_loops (n : Nat) : Nat → Option LEntry := fun f => bif Nat.beq f 0 then some (qag_L0 n) else none
theorem qag_r0 (n : Nat) (v_0 : Int) (n_1 : Int) (k_6 : Int) (m0 : DA) : roundK (real _) tab (qag_tbl n) (qag_loops n) qag_an [] qag_l0 0 [0, 1, 5, 6] qag_h0 qag_o0 ((v_0, (n_1, k_6)), m0) some = qag_B0 n v_0 n_1 k_6 m0 := by kernel_rfl
theorem qag_f0 (n : Nat) : LoopFact tab (qag_tbl n) (qag_loops n) qag_an [] n 0 qag_l0 (qag_L0 n) := ⟨[0, 1, 5, 6], (fun s => qag_B0 n s.1.1 s.1.2.1 s.1.2.2 s.2), by kernel_rfl, by kernel_rfl, fun s => rfl, fun s => qag_r0 n s.1.1 s.1.2.1 s.1.2.2 s.2⟩
theorem qag_run (n : Nat) (v_0 : Int) (n_1 : Int) : funDS (real _) tab (qag_tbl n) (qag_loops n) qag_an Try.f34 0 qag_a qag_res (v_0, n_1) some = qag n v_0 n_1 := by kernel_rfl
def qag_E (n : Nat) : Entry := ⟨qag_a, qag_res, fun d => qag n d.1 d.2⟩
theorem qag_ok (n : Nat) : EOK Try.prog 34 (qag_E n) :=
 EOK.ofS zc zb zg (tbl := qag_tbl n) (loops := qag_loops n) (an := qag_an) (old := []) (n := n) (c := qag_c) (fn := Try.f34) TblOK.nil (by kernel_rfl) (by kernel_rfl) (by kernel_rfl) (by kernel_rfl) (fun d => by kernel_rfl) (LT.cons (by kernel_rfl) (qag_f0 n) LT.nil) (fun a => qag_run n a.1 a.2)
def qak_an : Ann := { boxed := [(0, 0), (1, 0), (1, 2), (1, 7)] }
def qak_c : Code := (match Try.f18.body with | some c => c | none => .skip)
def qak_a : StSh := ⟨.normal, [0], (.cons (.sl true false (.int .u8)) .nil), .nil⟩
def qam_an : Ann := { live := [(0, [0, 3, 4]), (2, [0, 3, 4, 5])] }
def qam_c : Code := (match Try.f52.body with | some c => c | none => .skip)
def qam_l0 : Code := (match assoc 0 (loopsIn qam_c 0) with | some c => c | none => .skip)
def qam_l2 : Code := (match assoc 2 (loopsIn qam_c 0) with | some c => c | none => .skip)
def qam_a : StSh := ⟨.normal, [0], (.cons (.sl true false (.int .u8)) .nil), .nil⟩
def qam_h2 : List StSh := [⟨.normal, [0, 3, 4, 5], (.cons (.sl true false (.int .u8)) (.cons (.int .u32) (.cons (.int .i64) (.cons (.int .i64) .nil)))), .nil⟩]
def qam_o2 : List StSh := [⟨.exit 2, [0, 3, 4], (.cons (.sl true false (.int .u8)) (.cons (.int .u32) (.cons (.int .i64) .nil))), .nil⟩]
def qam_L2 (n : Nat) : LEntry := ⟨qam_h2, qam_o2, qam_W2 n⟩
def qam_h0 : List StSh := [⟨.normal, [0, 3, 4], (.cons (.sl true false (.int .u8)) (.cons (.int .u32) (.cons (.int .i64) .nil))), .nil⟩]
def qam_o0 : List StSh := [⟨.exit 0, [3], (.cons (.int .u32) .nil), .nil⟩]
def qam_L0 (n : Nat) : LEntry := ⟨qam_h0, qam_o0, qam_W0 n⟩
def qam_res : List StSh := [⟨.ret, [0], (.cons (.int .u32) .nil), .nil⟩]
def qam_tbl (n : Nat) : FuncId → List Entry := fun f => []
def qam_loops (n : Nat) : Nat → Option LEntry := fun f => bif Nat.beq f 2 then some (qam_L2 n) else bif Nat.beq f 0 then some (qam_L0 n) else none
theorem qam_r2 (n : Nat) (b_0 : DA) (n_3 : Int) (i_4 : Int) (k_5 : Int) : roundK (real _) tab (qam_tbl n) (qam_loops n) qam_an [] qam_l2 2 [0, 3, 4, 5] qam_h2 qam_o2 (b_0, (n_3, (i_4, k_5))) some = qam_B2 n b_0 n_3 i_4 k_5 := by kernel_rfl
theorem qam_f2 (n : Nat) : LoopFact tab (qam_tbl n) (qam_loops n) qam_an [] n 2 qam_l2 (qam_L2 n) := ⟨[0, 3, 4, 5], (fun s => qam_B2 n s.1 s.2.1 s.2.2.1 s.2.2.2), by kernel_rfl, by kernel_rfl, fun s => rfl, fun s => qam_r2 n s.1 s.2.1 s.2.2.1 s.2.2.2⟩
theorem qam_r0 (n : Nat) (b_0 : DA) (n_3 : Int) (i_4 : Int) : roundK (real _) tab (qam_tbl n) (qam_loops n) qam_an [] qam_l0 0 [0, 3, 4] qam_h0 qam_o0 (b_0, (n_3, i_4)) some = qam_B0 n b_0 n_3 i_4 := by kernel_rfl
theorem qam_f0 (n : Nat) : LoopFact tab (qam_tbl n) (qam_loops n) qam_an [] n 0 qam_l0 (qam_L0 n) := ⟨[0, 3, 4], (fun s => qam_B0 n s.1 s.2.1 s.2.2), by kernel_rfl, by kernel_rfl, fun s => rfl, fun s => qam_r0 n s.1 s.2.1 s.2.2⟩
theorem qam_run (n : Nat) (b_0 : DA) : funDS (real _) tab (qam_tbl n) (qam_loops n) qam_an Try.f52 0 qam_a qam_res b_0 some = qam n b_0 := by kernel_rfl
def qam_E (n : Nat) : Entry := ⟨qam_a, qam_res, fun d => qam n d⟩
theorem qam_ok (n : Nat) : EOK Try.prog 52 (qam_E n) :=
 EOK.ofS zc zb zg (tbl := qam_tbl n) (loops := qam_loops n) (an := qam_an) (old := []) (n := n) (c := qam_c) (fn := Try.f52) TblOK.nil (by kernel_rfl) (by kernel_rfl) (by kernel_rfl) (by kernel_rfl) (fun d => by kernel_rfl) (LT.cons (by kernel_rfl) (qam_f2 n) (LT.cons (by kernel_rfl) (qam_f0 n) LT.nil)) (fun a => qam_run n a)
def qak_res : List StSh := [⟨.ret, [0], (.cons (.msw 0 0) .nil), (.cons (.bts 0 false false false (.int .u8)) .nil)⟩]
def qak_tbl (n : Nat) : FuncId → List Entry := fun f => bif Nat.beq f 52 then [qam_E n] else bif Nat.beq f 34 then [qag_E n] else []
def qak_loops (n : Nat) : Nat → Option LEntry := fun f => none
theorem qak_run (n : Nat) (b_0 : DA) : funD (real _) tab (qak_tbl n) (qak_loops n) qak_an Try.f18 qak_a qak_res b_0 some = qak n b_0 := by kernel_rfl
def qak_E (n : Nat) : Entry := ⟨qak_a, qak_res, fun d => qak n d⟩
theorem qak_ok (n : Nat) : EOK Try.prog 18 (qak_E n) :=
 EOK.of zc zb zg (tbl := qak_tbl n) (loops := qak_loops n) (an := qak_an) (old := []) (n := n) (c := qak_c) (fn := Try.f18) (TblOK.cons (AllE.cons (qam_ok n) AllE.nil) (TblOK.cons (AllE.cons (qag_ok n) AllE.nil) TblOK.nil)) (by kernel_rfl) (by kernel_rfl) (by kernel_rfl) (by kernel_rfl) (fun d => by kernel_rfl) LT.nil (fun a => qak_run n a)
def qai_an : Ann := { live := [(0, [0, 1, 5])] }
def qai_c : Code := (match Try.f13.body with | some c => c | none => .skip)
def qai_l0 : Code := (match assoc 0 (loopsIn qai_c 0) with | some c => c | none => .skip)
def qai_a : StSh := ⟨.normal, [0, 1], (.cons (.sl true false (.int .u8)) (.cons (.sl true false (.int .u8)) .nil)), .nil⟩
def qai_h0 : List StSh := [⟨.normal, [0, 1, 5], (.cons (.sl true false (.int .u8)) (.cons (.sl true false (.int .u8)) (.cons (.int .i64) .nil))), .nil⟩]
def qai_o0 : List StSh := [⟨.ret, [4], (.cons .bool .nil), .nil⟩, ⟨.exit 0, [], .nil, .nil⟩]
def qai_L0 (n : Nat) : LEntry := ⟨qai_h0, qai_o0, qai_W0 n⟩
def qai_res : List StSh := [⟨.ret, [0], (.cons .bool .nil), .nil⟩]
def qai_tbl (n : Nat) : FuncId → List Entry := fun f => []
def qai_loops (n : Nat) : Nat → Option LEntry := fun f => bif Nat.beq f 0 then some (qai_L0 n) else none
theorem qai_r0 (n : Nat) (a_0 : DA) (b_1 : DA) (i_5 : Int) : roundK (real _) tab (qai_tbl n) (qai_loops n) qai_an [] qai_l0 0 [0, 1, 5] qai_h0 qai_o0 (a_0, (b_1, i_5)) some = qai_B0 n a_0 b_1 i_5 := by kernel_rfl
theorem qai_f0 (n : Nat) : LoopFact tab (qai_tbl n) (qai_loops n) qai_an [] n 0 qai_l0 (qai_L0 n) := ⟨[0, 1, 5], (fun s => qai_B0 n s.1 s.2.1 s.2.2), by kernel_rfl, by kernel_rfl, fun s => rfl, fun s => qai_r0 n s.1 s.2.1 s.2.2⟩
theorem qai_run (n : Nat) (a_0 : DA) (b_1 : DA) : funDS (real _) tab (qai_tbl n) (qai_loops n) qai_an Try.f13 0 qai_a qai_res (a_0, b_1) some = qai n a_0 b_1 := by kernel_rfl
def qai_E (n : Nat) : Entry := ⟨qai_a, qai_res, fun d => qai n d.1 d.2⟩
theorem qai_ok (n : Nat) : EOK Try.prog 13 (qai_E n) :=
 EOK.ofS zc zb zg (tbl := qai_tbl n) (loops := qai_loops n) (an := qai_an) (old := []) (n := n) (c := qai_c) (fn := Try.f13) TblOK.nil (by kernel_rfl) (by kernel_rfl) (by kernel_rfl) (by kernel_rfl) (fun d => by kernel_rfl) (LT.cons (by kernel_rfl) (qai_f0 n) LT.nil) (fun a => qai_run n a.1 a.2)
def qad_an : Ann := { live := [(0, [2, 3, 5])] }
def qad_c : Code := (match Try.f17.body with | some c => c | none => .skip)
def qad_l0 : Code := (match assoc 0 (loopsIn qad_c 0) with | some c => c | none => .skip)
def qad_a : StSh := ⟨.normal, [0, 1], (.cons (.agg (.cons (.sl true true yA) (.cons (.sl true true yB) (.cons (.sl true true yC) (.cons (.int .i64) (.cons (.int .i64) (.cons (.int .i64) (.cons (.int .u64) .nil)))))))) (.cons (.agg (.cons (.sl true true yA) (.cons (.sl true true yB) (.cons (.sl true true yC) (.cons (.int .i64) (.cons (.int .i64) (.cons (.int .i64) (.cons (.int .u64) .nil)))))))) .nil)), .nil⟩
def qah_an : Ann := { live := [(0, [0, 1, 5])] }
def qah_c : Code := (match Try.f49.body with | some c => c | none => .skip)
def qah_l0 : Code := (match assoc 0 (loopsIn qah_c 0) with | some c => c | none => .skip)
def qah_a : StSh := ⟨.normal, [0, 1], (.cons (.sl true false (.int .u64)) (.cons (.sl true false (.int .u64)) .nil)), .nil⟩
def qah_h0 : List StSh := [⟨.normal, [0, 1, 5], (.cons (.sl true false (.int .u64)) (.cons (.sl true false (.int .u64)) (.cons (.int .i64) .nil))), .nil⟩]
def qah_o0 : List StSh := [⟨.ret, [4], (.cons .bool .nil), .nil⟩, ⟨.exit 0, [], .nil, .nil⟩]
def qah_L0 (n : Nat) : LEntry := ⟨qah_h0, qah_o0, qah_W0 n⟩
def qah_res : List StSh := [⟨.ret, [0], (.cons .bool .nil), .nil⟩]
def qah_tbl (n : Nat) : FuncId → List Entry := fun f => []
def qah_loops (n : Nat) : Nat → Option LEntry := fun f => bif Nat.beq f 0 then some (qah_L0 n) else none
theorem qah_r0 (n : Nat) (a_0 : DA) (b_1 : DA) (i_5 : Int) : roundK (real _) tab (qah_tbl n) (qah_loops n) qah_an [] qah_l0 0 [0, 1, 5] qah_h0 qah_o0 (a_0, (b_1, i_5)) some = qah_B0 n a_0 b_1 i_5 := by kernel_rfl
theorem qah_f0 (n : Nat) : LoopFact tab (qah_tbl n) (qah_loops n) qah_an [] n 0 qah_l0 (qah_L0 n) := ⟨[0, 1, 5], (fun s => qah_B0 n s.1 s.2.1 s.2.2), by kernel_rfl, by kernel_rfl, fun s => rfl, fun s => qah_r0 n s.1 s.2.1 s.2.2⟩
theorem qah_run (n : Nat) (a_0 : DA) (b_1 : DA) : funDS (real _) tab (qah_tbl n) (qah_loops n) qah_an Try.f49 0 qah_a qah_res (a_0, b_1) some = qah n a_0 b_1 := by kernel_rfl
def qah_E (n : Nat) : Entry := ⟨qah_a, qah_res, fun d => qah n d.1 d.2⟩
theorem qah_ok (n : Nat) : EOK Try.prog 49 (qah_E n) :=
 EOK.ofS zc zb zg (tbl := qah_tbl n) (loops := qah_loops n) (an := qah_an) (old := []) (n := n) (c := qah_c) (fn := Try.f49) TblOK.nil (by kernel_rfl) (by kernel_rfl) (by kernel_rfl) (by kernel_rfl) (fun d => by kernel_rfl) (LT.cons (by kernel_rfl) (qah_f0 n) LT.nil) (fun a => qah_run n a.1 a.2)
def qad_h0 : List StSh := [⟨.normal, [2, 3, 5], (.cons (.ptr 0 0 0 0) (.cons (.ptr 1 0 0 0) (.cons (.int .i64) .nil))), (.cons (.bcells 0 false 1 (.cons (.sl true true yA) (.cons (.sl true true yB) (.cons (.sl true true yC) (.cons (.int .i64) (.cons (.int .i64) (.cons (.int .i64) (.cons (.int .u64) .nil)))))))) (.cons (.bcells 0 false 1 (.cons (.sl true true yA) (.cons (.sl true true yB) (.cons (.sl true true yC) (.cons (.int .i64) (.cons (.int .i64) (.cons (.int .i64) (.cons (.int .u64) .nil)))))))) .nil))⟩]
def qad_o0 : List StSh := [⟨.ret, [4], (.cons .bool .nil), (.cons (.bcells 0 false 1 (.cons (.sl true true yA) (.cons (.sl true true yB) (.cons (.sl true true yC) (.cons (.int .i64) (.cons (.int .i64) (.cons (.int .i64) (.cons (.int .u64) .nil)))))))) (.cons (.bcells 0 false 1 (.cons (.sl true true yA) (.cons (.sl true true yB) (.cons (.sl true true yC) (.cons (.int .i64) (.cons (.int .i64) (.cons (.int .i64) (.cons (.int .u64) .nil)))))))) (.cons (.bcells 0 false 1 (.cons (.int .i64) (.cons (.int .i64) (.cons (.sl true false (.int .u64)) (.cons (.sl true false (.int .u64)) .nil))))) (.cons (.bcells 0 false 1 (.cons (.int .i64) (.cons (.int .i64) (.cons (.sl true false (.int .u64)) (.cons (.sl true false (.int .u64)) .nil))))) .nil))))⟩, ⟨.exit 0, [2, 3], (.cons (.ptr 0 0 0 0) (.cons (.ptr 1 0 0 0) .nil)), (.cons (.bcells 0 false 1 (.cons (.sl true true yA) (.cons (.sl true true yB) (.cons (.sl true true yC) (.cons (.int .i64) (.cons (.int .i64) (.cons (.int .i64) (.cons (.int .u64) .nil)))))))) (.cons (.bcells 0 false 1 (.cons (.sl true true yA) (.cons (.sl true true yB) (.cons (.sl true true yC) (.cons (.int .i64) (.cons (.int .i64) (.cons (.int .i64) (.cons (.int .u64) .nil)))))))) .nil))⟩]
def qad_L0 (n : Nat) : LEntry := ⟨qad_h0, qad_o0, qad_W0 n⟩
def qaj_an : Ann := { live := [(0, [0, 1, 5])] }
def qaj_c : Code := (match Try.f50.body with | some c => c | none => .skip)
def qaj_l0 : Code := (match assoc 0 (loopsIn qaj_c 0) with | some c => c | none => .skip)
def qaj_a : StSh := ⟨.normal, [0, 1], (.cons (.sl true true yB) (.cons (.sl true true yB) .nil)), .nil⟩
def qaj_h0 : List StSh := [⟨.normal, [0, 1, 5], (.cons (.sl true true yB) (.cons (.sl true true yB) (.cons (.int .i64) .nil))), .nil⟩]
def qaj_o0 : List StSh := [⟨.ret, [4], (.cons .bool .nil), .nil⟩, ⟨.exit 0, [], .nil, .nil⟩]
def qaj_L0 (n : Nat) : LEntry := ⟨qaj_h0, qaj_o0, qaj_W0 n⟩
def qaj_res : List StSh := [⟨.ret, [0], (.cons .bool .nil), .nil⟩]
def qaj_tbl (n : Nat) : FuncId → List Entry := fun f => bif Nat.beq f 49 then [qah_E n] else bif Nat.beq f 13 then [qai_E n] else []
def qaj_loops (n : Nat) : Nat → Option LEntry := fun f => bif Nat.beq f 0 then some (qaj_L0 n) else none
theorem qaj_r0 (n : Nat) (t0 : DE) (t1 : DE) (t5 : Int) : roundK (real _) tab (qaj_tbl n) (qaj_loops n) qaj_an [] qaj_l0 0 [0, 1, 5] qaj_h0 qaj_o0 (t0, (t1, t5)) some = qaj_B0 n t0 t1 t5 := by kernel_rfl
theorem qaj_f0 (n : Nat) : LoopFact tab (qaj_tbl n) (qaj_loops n) qaj_an [] n 0 qaj_l0 (qaj_L0 n) := ⟨[0, 1, 5], (fun s => qaj_B0 n s.1 s.2.1 s.2.2), by kernel_rfl, by kernel_rfl, fun s => rfl, fun s => qaj_r0 n s.1 s.2.1 s.2.2⟩
theorem qaj_run (n : Nat) (t0 : DE) (t1 : DE) : funDS (real _) tab (qaj_tbl n) (qaj_loops n) qaj_an Try.f50 0 qaj_a qaj_res (t0, t1) some = qaj n t0 t1 := by kernel_rfl
def qaj_E (n : Nat) : Entry := ⟨qaj_a, qaj_res, fun d => qaj n d.1 d.2⟩
theorem qaj_ok (n : Nat) : EOK Try.prog 50 (qaj_E n) :=
 EOK.ofS zc zb zg (tbl := qaj_tbl n) (loops := qaj_loops n) (an := qaj_an) (old := []) (n := n) (c := qaj_c) (fn := Try.f50) (TblOK.cons (AllE.cons (qah_ok n) AllE.nil) (TblOK.cons (AllE.cons (qai_ok n) AllE.nil) TblOK.nil)) (by kernel_rfl) (by kernel_rfl) (by kernel_rfl) (by kernel_rfl) (fun d => by kernel_rfl) (LT.cons (by kernel_rfl) (qaj_f0 n) LT.nil) (fun a => qaj_run n a.1 a.2)
def qal_an : Ann := { live := [(0, [0, 1, 5])] }
def qal_c : Code := (match Try.f51.body with | some c => c | none => .skip)
def qal_l0 : Code := (match assoc 0 (loopsIn qal_c 0) with | some c => c | none => .skip)
def qal_a : StSh := ⟨.normal, [0, 1], (.cons (.sl true true yC) (.cons (.sl true true yC) .nil)), .nil⟩
def qal_h0 : List StSh := [⟨.normal, [0, 1, 5], (.cons (.sl true true yC) (.cons (.sl true true yC) (.cons (.int .i64) .nil))), .nil⟩]
def qal_o0 : List StSh := [⟨.ret, [4], (.cons .bool .nil), .nil⟩, ⟨.exit 0, [], .nil, .nil⟩]
def qal_L0 (n : Nat) : LEntry := ⟨qal_h0, qal_o0, qal_W0 n⟩
def qal_res : List StSh := [⟨.ret, [0], (.cons .bool .nil), .nil⟩]
def qal_tbl (n : Nat) : FuncId → List Entry := fun f => []
def qal_loops (n : Nat) : Nat → Option LEntry := fun f => bif Nat.beq f 0 then some (qal_L0 n) else none
theorem qal_r0 (n : Nat) (a_0 : DB) (b_1 : DB) (i_5 : Int) : roundK (real _) tab (qal_tbl n) (qal_loops n) qal_an [] qal_l0 0 [0, 1, 5] qal_h0 qal_o0 (a_0, (b_1, i_5)) some = qal_B0 n a_0 b_1 i_5 := by kernel_rfl
theorem qal_f0 (n : Nat) : LoopFact tab (qal_tbl n) (qal_loops n) qal_an [] n 0 qal_l0 (qal_L0 n) := ⟨[0, 1, 5], (fun s => qal_B0 n s.1 s.2.1 s.2.2), by kernel_rfl, by kernel_rfl, fun s => rfl, fun s => qal_r0 n s.1 s.2.1 s.2.2⟩
theorem qal_run (n : Nat) (a_0 : DB) (b_1 : DB) : funDS (real _) tab (qal_tbl n) (qal_loops n) qal_an Try.f51 0 qal_a qal_res (a_0, b_1) some = qal n a_0 b_1 := by kernel_rfl
def qal_E (n : Nat) : Entry := ⟨qal_a, qal_res, fun d => qal n d.1 d.2⟩
theorem qal_ok (n : Nat) : EOK Try.prog 51 (qal_E n) :=
 EOK.ofS zc zb zg (tbl := qal_tbl n) (loops := qal_loops n) (an := qal_an) (old := []) (n := n) (c := qal_c) (fn := Try.f51) TblOK.nil (by kernel_rfl) (by kernel_rfl) (by kernel_rfl) (by kernel_rfl) (fun d => by kernel_rfl) (LT.cons (by kernel_rfl) (qal_f0 n) LT.nil) (fun a => qal_run n a.1 a.2)
def qad_res : List StSh := [⟨.ret, [0], (.cons .bool .nil), .nil⟩]
def qad_tbl (n : Nat) : FuncId → List Entry := fun f => bif Nat.beq f 49 then [qah_E n] else bif Nat.beq f 50 then [qaj_E n] else bif Nat.beq f 51 then [qal_E n] else []
def qad_loops (n : Nat) : Nat → Option LEntry := fun f => bif Nat.beq f 0 then some (qad_L0 n) else none
theorem qad_r0 (n : Nat) (t5 : Int) (m0 : DE) (m0_1 : DE) (m0_2 : DB) (m0_3 : Int) (m0_4 : Int) (m0_5 : Int) (m0_6 : Int) (m1 : DE) (m1_1 : DE) (m1_2 : DB) (m1_3 : Int) (m1_4 : Int) (m1_5 : Int) (m1_6 : Int) : roundK (real _) tab (qad_tbl n) (qad_loops n) qad_an [] qad_l0 0 [2, 3, 5] qad_h0 qad_o0 (t5, ((m0, (m0_1, (m0_2, (m0_3, (m0_4, (m0_5, m0_6)))))), (m1, (m1_1, (m1_2, (m1_3, (m1_4, (m1_5, m1_6)))))))) some = qad_B0 n t5 m0 m0_1 m0_2 m0_3 m0_4 m0_5 m0_6 m1 m1_1 m1_2 m1_3 m1_4 m1_5 m1_6 := by kernel_rfl
theorem qad_f0 (n : Nat) : LoopFact tab (qad_tbl n) (qad_loops n) qad_an [] n 0 qad_l0 (qad_L0 n) := ⟨[2, 3, 5], (fun s => qad_B0 n s.1 s.2.1.1 s.2.1.2.1 s.2.1.2.2.1 s.2.1.2.2.2.1 s.2.1.2.2.2.2.1 s.2.1.2.2.2.2.2.1 s.2.1.2.2.2.2.2.2 s.2.2.1 s.2.2.2.1 s.2.2.2.2.1 s.2.2.2.2.2.1 s.2.2.2.2.2.2.1 s.2.2.2.2.2.2.2.1 s.2.2.2.2.2.2.2.2), by kernel_rfl, by kernel_rfl, fun s => rfl, fun s => qad_r0 n s.1 s.2.1.1 s.2.1.2.1 s.2.1.2.2.1 s.2.1.2.2.2.1 s.2.1.2.2.2.2.1 s.2.1.2.2.2.2.2.1 s.2.1.2.2.2.2.2.2 s.2.2.1 s.2.2.2.1 s.2.2.2.2.1 s.2.2.2.2.2.1 s.2.2.2.2.2.2.1 s.2.2.2.2.2.2.2.1 s.2.2.2.2.2.2.2.2⟩
theorem qad_run (n : Nat) (t0 : DE) (t0_1 : DE) (t0_2 : DB) (t0_3 : Int) (t0_4 : Int) (t0_5 : Int) (t0_6 : Int) (t1 : DE) (t1_1 : DE) (t1_2 : DB) (t1_3 : Int) (t1_4 : Int) (t1_5 : Int) (t1_6 : Int) : funDS (real _) tab (qad_tbl n) (qad_loops n) qad_an Try.f17 0 qad_a qad_res ((t0, (t0_1, (t0_2, (t0_3, (t0_4, (t0_5, t0_6)))))), (t1, (t1_1, (t1_2, (t1_3, (t1_4, (t1_5, t1_6))))))) some = qad n t0 t0_1 t0_2 t0_3 t0_4 t0_5 t0_6 t1 t1_1 t1_2 t1_3 t1_4 t1_5 t1_6 := by kernel_rfl
def qad_E (n : Nat) : Entry := ⟨qad_a, qad_res, fun d => qad n d.1.1 d.1.2.1 d.1.2.2.1 d.1.2.2.2.1 d.1.2.2.2.2.1 d.1.2.2.2.2.2.1 d.1.2.2.2.2.2.2 d.2.1 d.2.2.1 d.2.2.2.1 d.2.2.2.2.1 d.2.2.2.2.2.1 d.2.2.2.2.2.2.1 d.2.2.2.2.2.2.2⟩
theorem qad_ok (n : Nat) : EOK Try.prog 17 (qad_E n) :=
 EOK.ofS zc zb zg (tbl := qad_tbl n) (loops := qad_loops n) (an := qad_an) (old := []) (n := n) (c := qad_c) (fn := Try.f17) (TblOK.cons (AllE.cons (qah_ok n) AllE.nil) (TblOK.cons (AllE.cons (qaj_ok n) AllE.nil) (TblOK.cons (AllE.cons (qal_ok n) AllE.nil) TblOK.nil))) (by kernel_rfl) (by kernel_rfl) (by kernel_rfl) (by kernel_rfl) (fun d => by kernel_rfl) (LT.cons (by kernel_rfl) (qad_f0 n) LT.nil) (fun a => qad_run n a.1.1 a.1.2.1 a.1.2.2.1 a.1.2.2.2.1 a.1.2.2.2.2.1 a.1.2.2.2.2.2.1 a.1.2.2.2.2.2.2 a.2.1 a.2.2.1 a.2.2.2.1 a.2.2.2.2.1 a.2.2.2.2.2.1 a.2.2.2.2.2.2.1 a.2.2.2.2.2.2.2)
def law20ImageVersion_an : Ann := {}
def law20ImageVersion_c : Code := (match Try.f5.body with | some c => c | none => .skip)
def law20ImageVersion_a : StSh := ⟨.normal, [0], (.cons (.sl true false (.int .u8)) .nil), .nil⟩
def law20ImageVersion_res : List StSh := [⟨.ret, [0], (.cons .bool .nil), .nil⟩]
def law20ImageVersion_tbl (n : Nat) : FuncId → List Entry := fun f => bif Nat.beq f 11 then [qx_E n] else bif Nat.beq f 18 then [qak_E n] else bif Nat.beq f 15 then [qaf_E n] else bif Nat.beq f 17 then [qad_E n] else []
def law20ImageVersion_loops (n : Nat) : Nat → Option LEntry := fun f => none
theorem zck (n : Nat) (t0 : DA) : funDS (real _) tab (law20ImageVersion_tbl n) (law20ImageVersion_loops n) law20ImageVersion_an Try.f5 0 law20ImageVersion_a law20ImageVersion_res t0 some = law20ImageVersion n t0 := by kernel_rfl
def law20ImageVersion_E (n : Nat) : Entry := ⟨law20ImageVersion_a, law20ImageVersion_res, fun d => law20ImageVersion n d⟩
theorem zcA (n : Nat) : EOK Try.prog 5 (law20ImageVersion_E n) :=
 EOK.ofS zc zb zg (tbl := law20ImageVersion_tbl n) (loops := law20ImageVersion_loops n) (an := law20ImageVersion_an) (old := []) (n := n) (c := law20ImageVersion_c) (fn := Try.f5) (TblOK.cons (AllE.cons (qx_ok n) AllE.nil) (TblOK.cons (AllE.cons (qak_ok n) AllE.nil) (TblOK.cons (AllE.cons (qaf_ok n) AllE.nil) (TblOK.cons (AllE.cons (qad_ok n) AllE.nil) TblOK.nil)))) (by kernel_rfl) (by kernel_rfl) (by kernel_rfl) (by kernel_rfl) (fun d => by kernel_rfl) LT.nil (fun a => zck n a)
end
end Sx
