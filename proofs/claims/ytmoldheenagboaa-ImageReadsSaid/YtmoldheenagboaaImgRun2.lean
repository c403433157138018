import Derived.Test.YtmoldheenagboaaImgFixB
open Go Go.Ab Go.Proofs
set_option linter.unusedVariables false
set_option maxRecDepth 20000
namespace Sx
noncomputable section
def qad_res : List aI := [⟨.ret, [0], (.cons (.tup (.cons .nilP (.cons (.int .u32) (.cons (.int .i64) .nil)))) .nil), .nil⟩, ⟨.ret, [0], (.cons (.tup (.cons (.ptr 0 0 0 0) (.cons (.int .u32) (.cons (.int .i64) .nil)))) .nil), (.cons (.bcells 0 false 1 (.cons (.sl false false (.int .u8)) (.cons .bool .nil))) .nil)⟩]
def qad_tbl (n : Nat) : FuncId → List aD := fun f => bif Nat.beq f 72 then [qav_E n] else bif Nat.beq f 73 then [qaa_E n] else bif Nat.beq f 74 then [qo_E n] else bif Nat.beq f 55 then [qz_E n] else []
def qad_loops (n : Nat) : Nat → Option aH := fun f => none
theorem qad_run (n : Nat) (b_0 : DA) (first_1 : Int) : bM (aL _) tab (qad_tbl n) (qad_loops n) qad_an Try.f38 0 qad_a qad_res (b_0, first_1) some = qad n b_0 first_1 := by kernel_rfl
def qad_E (n : Nat) : aD := ⟨qad_a, qad_res, fun d => qad n d.1 d.2⟩
theorem qad_ok (n : Nat) : cE Try.prog 38 (qad_E n) :=
 cE.ofS aG aF aY (tbl := qad_tbl n) (loops := qad_loops n) (an := qad_an) (old := []) (n := n) (c := qad_c) (fn := Try.f38) (aE.cons (AllE.cons (qav_ok n) AllE.nil) (aE.cons (AllE.cons (qaa_ok n) AllE.nil) (aE.cons (AllE.cons (qo_ok n) AllE.nil) (aE.cons (AllE.cons (qz_ok n) AllE.nil) aE.nil)))) (by kernel_rfl) (by kernel_rfl) (by kernel_rfl) (by kernel_rfl) (fun d => by kernel_rfl) LT.nil (fun a => qad_run n a.1 a.2)
def qq_an : dJ := {}
def qq_c : Code := (match Try.f39.body with | some c => c | none => .skip)
def qq_a : aI := ⟨.normal, [0], (.cons (.ptr 0 0 0 0) .nil), (.cons (.bcells 0 false 1 (.cons .nilP (.cons .bool .nil))) .nil)⟩
def qab_an : dJ := { live := [(0, [0, 3, 4])] }
def qab_c : Code := (match Try.f40.body with | some c => c | none => .skip)
def qab_l0 : Code := (match bR 0 (aU qab_c 0) with | some c => c | none => .skip)
def qab_a : aI := ⟨.normal, [0], (.cons .nilP .nil), .nil⟩
def qg_an : dJ := {}
def qg_c : Code := (match Try.f75.body with | some c => c | none => .skip)
def qg_a : aI := ⟨.normal, [0, 1], (.cons .nilP (.cons (.int .i64) .nil)), .nil⟩
def qm_an : dJ := {}
def qm_c : Code := (match Try.f55.body with | some c => c | none => .skip)
def qm_a : aI := ⟨.normal, [0], (.cons .nilP .nil), .nil⟩
def qm_res : List aI := []
def qm_tbl (n : Nat) : FuncId → List aD := fun f => []
def qm_loops (n : Nat) : Nat → Option aH := fun f => none
theorem qm_run (n : Nat) : bM (aL _) tab (qm_tbl n) (qm_loops n) qm_an Try.f55 0 qm_a qm_res () some = qm n := by kernel_rfl
def qm_E (n : Nat) : aD := ⟨qm_a, qm_res, fun d => qm n⟩
theorem qm_ok (n : Nat) : cE Try.prog 55 (qm_E n) :=
 cE.ofS aG aF aY (tbl := qm_tbl n) (loops := qm_loops n) (an := qm_an) (old := []) (n := n) (c := qm_c) (fn := Try.f55) aE.nil (by kernel_rfl) (by kernel_rfl) (by kernel_rfl) (by kernel_rfl) (fun d => by kernel_rfl) LT.nil (fun a => qm_run n)
def qg_res : List aI := []
def qg_tbl (n : Nat) : FuncId → List aD := fun f => bif Nat.beq f 55 then [qm_E n] else []
def qg_loops (n : Nat) : Nat → Option aH := fun f => none
theorem qg_run (n : Nat) (n_1 : Int) : bM (aL _) tab (qg_tbl n) (qg_loops n) qg_an Try.f75 0 qg_a qg_res n_1 some = qg n n_1 := by kernel_rfl
def qg_E (n : Nat) : aD := ⟨qg_a, qg_res, fun d => qg n d⟩
theorem qg_ok (n : Nat) : cE Try.prog 75 (qg_E n) :=
 cE.ofS aG aF aY (tbl := qg_tbl n) (loops := qg_loops n) (an := qg_an) (old := []) (n := n) (c := qg_c) (fn := Try.f75) (aE.cons (AllE.cons (qm_ok n) AllE.nil) aE.nil) (by kernel_rfl) (by kernel_rfl) (by kernel_rfl) (by kernel_rfl) (fun d => by kernel_rfl) LT.nil (fun a => qg_run n a)
def qab_h0 : List aI := [⟨.normal, [0, 3, 4], (.cons .nilP (.cons (.int .u64) (.cons (.int .i64) .nil))), .nil⟩]
def qab_o0 : List aI := []
def qab_L0 (n : Nat) : aH := ⟨qab_h0, qab_o0, qab_W0 n⟩
def qab_res : List aI := []
def qab_tbl (n : Nat) : FuncId → List aD := fun f => bif Nat.beq f 75 then [qg_E n] else []
def qab_loops (n : Nat) : Nat → Option aH := fun f => bif Nat.beq f 0 then some (qab_L0 n) else none
theorem qab_r0 (n : Nat) (v_3 : Int) (k_4 : Int) : bU (aL _) tab (qab_tbl n) (qab_loops n) qab_an [] qab_l0 0 [0, 3, 4] qab_h0 qab_o0 (v_3, k_4) some = qab_B0 n v_3 k_4 := by kernel_rfl
theorem qab_f0 (n : Nat) : aZ tab (qab_tbl n) (qab_loops n) qab_an [] n 0 qab_l0 (qab_L0 n) := ⟨[0, 3, 4], (fun s => qab_B0 n s.1 s.2), by kernel_rfl, by kernel_rfl, fun s => rfl, fun s => qab_r0 n s.1 s.2⟩
theorem qab_run (n : Nat) : bM (aL _) tab (qab_tbl n) (qab_loops n) qab_an Try.f40 0 qab_a qab_res () some = qab n := by kernel_rfl
def qab_E (n : Nat) : aD := ⟨qab_a, qab_res, fun d => qab n⟩
theorem qab_ok (n : Nat) : cE Try.prog 40 (qab_E n) :=
 cE.ofS aG aF aY (tbl := qab_tbl n) (loops := qab_loops n) (an := qab_an) (old := []) (n := n) (c := qab_c) (fn := Try.f40) (aE.cons (AllE.cons (qg_ok n) AllE.nil) aE.nil) (by kernel_rfl) (by kernel_rfl) (by kernel_rfl) (by kernel_rfl) (fun d => by kernel_rfl) (LT.cons (by kernel_rfl) (qab_f0 n) LT.nil) (fun a => qab_run n)
def qq_res : List aI := []
def qq_tbl (n : Nat) : FuncId → List aD := fun f => bif Nat.beq f 40 then [qab_E n] else []
def qq_loops (n : Nat) : Nat → Option aH := fun f => none
theorem qq_run (n : Nat) (m0 : Bool) : bM (aL _) tab (qq_tbl n) (qq_loops n) qq_an Try.f39 1 qq_a qq_res m0 some = qq n m0 := by kernel_rfl
def qq_E (n : Nat) : aD := ⟨qq_a, qq_res, fun d => qq n d⟩
theorem qq_ok (n : Nat) : cE Try.prog 39 (qq_E n) :=
 cE.ofS aG aF aY (tbl := qq_tbl n) (loops := qq_loops n) (an := qq_an) (old := [some true]) (n := n) (c := qq_c) (fn := Try.f39) (aE.cons (AllE.cons (qab_ok n) AllE.nil) aE.nil) (by kernel_rfl) (by kernel_rfl) (by kernel_rfl) (by kernel_rfl) (fun d => by kernel_rfl) LT.nil (fun a => qq_run n a)
def qc_an : dJ := {}
def qc_c : Code := (match Try.f39.body with | some c => c | none => .skip)
def qc_a : aI := ⟨.normal, [0], (.cons (.ptr 0 0 0 0) .nil), (.cons (.bcells 0 false 1 (.cons (.ptr 1 0 0 0) (.cons .bool .nil))) (.cons (.bcells 0 false 1 (.cons (.sl false false (.int .u8)) (.cons .bool .nil))) .nil))⟩
def qt_an : dJ := { live := [(0, [0, 3, 4])] }
def qt_c : Code := (match Try.f40.body with | some c => c | none => .skip)
def qt_l0 : Code := (match bR 0 (aU qt_c 0) with | some c => c | none => .skip)
def qt_a : aI := ⟨.normal, [0], (.cons (.ptr 0 0 0 0) .nil), (.cons (.bcells 0 false 1 (.cons (.sl false false (.int .u8)) (.cons .bool .nil))) .nil)⟩
def qt_h0 : List aI := [⟨.normal, [0, 3, 4], (.cons (.ptr 0 0 0 0) (.cons (.int .u64) (.cons (.int .i64) .nil))), (.cons (.bcells 0 false 1 (.cons (.sl false false (.int .u8)) (.cons .bool .nil))) .nil)⟩]
def qt_o0 : List aI := [⟨.ret, [2], (.cons (.int .u64) .nil), (.cons (.bcells 0 false 1 (.cons (.sl false false (.int .u8)) (.cons .bool .nil))) .nil)⟩]
def qt_L0 (n : Nat) : aH := ⟨qt_h0, qt_o0, qt_W0 n⟩
def qt_res : List aI := [⟨.ret, [0], (.cons (.int .u64) .nil), (.cons (.bcells 0 false 1 (.cons (.sl false false (.int .u8)) (.cons .bool .nil))) .nil)⟩]
def qt_tbl (n : Nat) : FuncId → List aD := fun f => bif Nat.beq f 75 then [qv_E n] else bif Nat.beq f 76 then [qu_E n] else []
def qt_loops (n : Nat) : Nat → Option aH := fun f => bif Nat.beq f 0 then some (qt_L0 n) else none
theorem qt_r0 (n : Nat) (v_3 : Int) (k_4 : Int) (m0 : DA) (m0_1 : Bool) : bU (aL _) tab (qt_tbl n) (qt_loops n) qt_an [some true] qt_l0 0 [0, 3, 4] qt_h0 qt_o0 ((v_3, k_4), (m0, m0_1)) some = qt_B0 n v_3 k_4 m0 m0_1 := by kernel_rfl
theorem qt_f0 (n : Nat) : aZ tab (qt_tbl n) (qt_loops n) qt_an [some true] n 0 qt_l0 (qt_L0 n) := ⟨[0, 3, 4], (fun s => qt_B0 n s.1.1 s.1.2 s.2.1 s.2.2), by kernel_rfl, by kernel_rfl, fun s => rfl, fun s => qt_r0 n s.1.1 s.1.2 s.2.1 s.2.2⟩
theorem qt_run (n : Nat) (m0 : DA) (m0_1 : Bool) : bM (aL _) tab (qt_tbl n) (qt_loops n) qt_an Try.f40 1 qt_a qt_res (m0, m0_1) some = qt n m0 m0_1 := by kernel_rfl
def qt_E (n : Nat) : aD := ⟨qt_a, qt_res, fun d => qt n d.1 d.2⟩
theorem qt_ok (n : Nat) : cE Try.prog 40 (qt_E n) :=
 cE.ofS aG aF aY (tbl := qt_tbl n) (loops := qt_loops n) (an := qt_an) (old := [some true]) (n := n) (c := qt_c) (fn := Try.f40) (aE.cons (AllE.cons (qv_ok n) AllE.nil) (aE.cons (AllE.cons (qu_ok n) AllE.nil) aE.nil)) (by kernel_rfl) (by kernel_rfl) (by kernel_rfl) (by kernel_rfl) (fun d => by kernel_rfl) (LT.cons (by kernel_rfl) (qt_f0 n) LT.nil) (fun a => qt_run n a.1 a.2)
def qc_res : List aI := [⟨.ret, [0], (.cons (.int .i64) .nil), (.cons (.bcells 0 false 1 (.cons (.ptr 1 0 0 0) (.cons .bool .nil))) (.cons (.bcells 0 false 1 (.cons (.sl false false (.int .u8)) (.cons .bool .nil))) .nil))⟩]
def qc_tbl (n : Nat) : FuncId → List aD := fun f => bif Nat.beq f 40 then [qt_E n] else []
def qc_loops (n : Nat) : Nat → Option aH := fun f => none
theorem qc_run (n : Nat) (m0 : Bool) (m1 : DA) (m1_1 : Bool) : bM (aL _) tab (qc_tbl n) (qc_loops n) qc_an Try.f39 2 qc_a qc_res (m0, (m1, m1_1)) some = qc n m0 m1 m1_1 := by kernel_rfl
def qc_E (n : Nat) : aD := ⟨qc_a, qc_res, fun d => qc n d.1 d.2.1 d.2.2⟩
theorem qc_ok (n : Nat) : cE Try.prog 39 (qc_E n) :=
 cE.ofS aG aF aY (tbl := qc_tbl n) (loops := qc_loops n) (an := qc_an) (old := [some true, some true]) (n := n) (c := qc_c) (fn := Try.f39) (aE.cons (AllE.cons (qt_ok n) AllE.nil) aE.nil) (by kernel_rfl) (by kernel_rfl) (by kernel_rfl) (by kernel_rfl) (fun d => by kernel_rfl) LT.nil (fun a => qc_run n a.1 a.2.1 a.2.2)
def qb_an : dJ := { live := [(0, [0, 1, 5, 6])], boxed := [(1, 0), (5, 4)] }
def qb_c : Code := (match Try.f41.body with | some c => c | none => .skip)
def qb_l0 : Code := (match bR 0 (aU qb_c 0) with | some c => c | none => .skip)
def qb_a : aI := ⟨.normal, [0, 1], (.cons (.ptr 0 0 0 0) (.cons (.fn 42 (.cons (.ptr 0 0 0 0) .nil) .nil) .nil)), (.cons (.bcells 0 false 1 (.cons (.ptr 1 0 0 0) (.cons .bool .nil))) (.cons (.bcells 0 false 1 (.cons (.sl false false (.int .u8)) (.cons .bool .nil))) .nil))⟩
def qe_an : dJ := {}
def qe_c : Code := (match Try.f47.body with | some c => c | none => .skip)
def qe_a : aI := ⟨.normal, [0], (.cons (.ptr 0 0 0 0) .nil), (.cons (.bcells 0 false 1 (.cons (.ptr 1 0 0 0) (.cons .bool .nil))) (.cons (.bcells 0 false 1 (.cons (.sl false false (.int .u8)) (.cons .bool .nil))) .nil))⟩
def qe_res : List aI := [⟨.ret, [0], (.cons .bool .nil), (.cons (.bcells 0 false 1 (.cons (.ptr 1 0 0 0) (.cons .bool .nil))) (.cons (.bcells 0 false 1 (.cons (.sl false false (.int .u8)) (.cons .bool .nil))) .nil))⟩]
def qe_tbl (n : Nat) : FuncId → List aD := fun f => bif Nat.beq f 55 then [qz_E n] else []
def qe_loops (n : Nat) : Nat → Option aH := fun f => none
theorem qe_run (n : Nat) (m0 : Bool) (m1 : DA) (m1_1 : Bool) : bM (aL _) tab (qe_tbl n) (qe_loops n) qe_an Try.f47 2 qe_a qe_res (m0, (m1, m1_1)) some = qe n m0 m1 m1_1 := by kernel_rfl
def qe_E (n : Nat) : aD := ⟨qe_a, qe_res, fun d => qe n d.1 d.2.1 d.2.2⟩
theorem qe_ok (n : Nat) : cE Try.prog 47 (qe_E n) :=
 cE.ofS aG aF aY (tbl := qe_tbl n) (loops := qe_loops n) (an := qe_an) (old := [some true, some true]) (n := n) (c := qe_c) (fn := Try.f47) (aE.cons (AllE.cons (qz_ok n) AllE.nil) aE.nil) (by kernel_rfl) (by kernel_rfl) (by kernel_rfl) (by kernel_rfl) (fun d => by kernel_rfl) LT.nil (fun a => qe_run n a.1 a.2.1 a.2.2)
def qf_an : dJ := {}
def qf_c : Code := (match Try.f42.body with | some c => c | none => .skip)
def qf_a : aI := ⟨.normal, [0], (.cons (.ptr 0 0 0 0) .nil), (.cons (.bcells 0 false 1 (.cons (.ptr 1 0 0 0) (.cons .bool .nil))) (.cons (.bcells 0 false 1 (.cons (.sl false false (.int .u8)) (.cons .bool .nil))) .nil))⟩
def qh_an : dJ := { live := [(0, [0, 1, 5, 6])], boxed := [(1, 0), (5, 4)] }
def qh_c : Code := (match Try.f77.body with | some c => c | none => .skip)
def qh_l0 : Code := (match bR 0 (aU qh_c 0) with | some c => c | none => .skip)
def qh_a : aI := ⟨.normal, [0, 1], (.cons (.ptr 0 0 0 0) (.cons (.fn 40 (.cons (.ptr 1 0 0 0) .nil) .nil) .nil)), (.cons (.bcells 0 false 1 (.cons (.ptr 1 0 0 0) (.cons .bool .nil))) (.cons (.bcells 0 false 1 (.cons (.sl false false (.int .u8)) (.cons .bool .nil))) .nil))⟩
def qh_h0 : List aI := [⟨.normal, [0, 1, 5, 6], (.cons (.ptr 0 0 0 0) (.cons (.fn 40 (.cons (.ptr 1 0 0 0) .nil) .nil) (.cons (.msw 2 0) (.cons (.int .i64) .nil)))), (.cons (.bcells 0 false 1 (.cons (.ptr 1 0 0 0) (.cons .bool .nil))) (.cons (.bcells 0 false 1 (.cons (.sl false false (.int .u8)) (.cons .bool .nil))) (.cons (.bts 0 false false false (.int .u64)) .nil)))⟩]
def qh_o0 : List aI := [⟨.exit 0, [5], (.cons (.msw 2 0) .nil), (.cons (.bcells 0 false 1 (.cons (.ptr 1 0 0 0) (.cons .bool .nil))) (.cons (.bcells 0 false 1 (.cons (.sl false false (.int .u8)) (.cons .bool .nil))) (.cons (.bts 0 false false false (.int .u64)) .nil)))⟩]
def qh_L0 (n : Nat) : aH := ⟨qh_h0, qh_o0, qh_W0 n⟩
def qh_res : List aI := [⟨.ret, [0], (.cons (.sl false false (.int .u64)) .nil), (.cons (.bcells 0 false 1 (.cons (.ptr 1 0 0 0) (.cons .bool .nil))) (.cons (.bcells 0 false 1 (.cons (.sl false false (.int .u8)) (.cons .bool .nil))) .nil))⟩]
def qh_tbl (n : Nat) : FuncId → List aD := fun f => bif Nat.beq f 39 then [qc_E n] else bif Nat.beq f 47 then [qe_E n] else bif Nat.beq f 40 then [qt_E n] else []
def qh_loops (n : Nat) : Nat → Option aH := fun f => bif Nat.beq f 0 then some (qh_L0 n) else none
theorem qh_r0 (n : Nat) (n_6 : Int) (m0 : Bool) (m1 : DA) (m1_1 : Bool) (m2 : DA) : bU (aL _) tab (qh_tbl n) (qh_loops n) qh_an [some true, some true] qh_l0 0 [0, 1, 5, 6] qh_h0 qh_o0 (n_6, (m0, ((m1, m1_1), m2))) some = qh_B0 n n_6 m0 m1 m1_1 m2 := by kernel_rfl
theorem qh_f0 (n : Nat) : aZ tab (qh_tbl n) (qh_loops n) qh_an [some true, some true] n 0 qh_l0 (qh_L0 n) := ⟨[0, 1, 5, 6], (fun s => qh_B0 n s.1 s.2.1 s.2.2.1.1 s.2.2.1.2 s.2.2.2), by kernel_rfl, by kernel_rfl, fun s => rfl, fun s => qh_r0 n s.1 s.2.1 s.2.2.1.1 s.2.2.1.2 s.2.2.2⟩
theorem qh_run (n : Nat) (m0 : Bool) (m1 : DA) (m1_1 : Bool) : bM (aL _) tab (qh_tbl n) (qh_loops n) qh_an Try.f77 2 qh_a qh_res (m0, (m1, m1_1)) some = qh n m0 m1 m1_1 := by kernel_rfl
def qh_E (n : Nat) : aD := ⟨qh_a, qh_res, fun d => qh n d.1 d.2.1 d.2.2⟩
theorem qh_ok (n : Nat) : cE Try.prog 77 (qh_E n) :=
 cE.ofS aG aF aY (tbl := qh_tbl n) (loops := qh_loops n) (an := qh_an) (old := [some true, some true]) (n := n) (c := qh_c) (fn := Try.f77) (aE.cons (AllE.cons (qc_ok n) AllE.nil) (aE.cons (AllE.cons (qe_ok n) AllE.nil) (aE.cons (AllE.cons (qt_ok n) AllE.nil) aE.nil))) (by kernel_rfl) (by kernel_rfl) (by kernel_rfl) (by kernel_rfl) (fun d => by kernel_rfl) (LT.cons (by kernel_rfl) (qh_f0 n) LT.nil) (fun a => qh_run n a.1 a.2.1 a.2.2)
def qf_res : List aI := [⟨.ret, [0], (.cons (.agg (.cons (.int .i64) (.cons (.int .i64) (.cons (.sl false false (.int .u64)) (.cons (.sl false false (.int .u64)) .nil))))) .nil), (.cons (.bcells 0 false 1 (.cons (.ptr 1 0 0 0) (.cons .bool .nil))) (.cons (.bcells 0 false 1 (.cons (.sl false false (.int .u8)) (.cons .bool .nil))) .nil))⟩]
def qf_tbl (n : Nat) : FuncId → List aD := fun f => bif Nat.beq f 39 then [qc_E n] else bif Nat.beq f 77 then [qh_E n] else []
def qf_loops (n : Nat) : Nat → Option aH := fun f => none
theorem qf_run (n : Nat) (m0 : Bool) (m1 : DA) (m1_1 : Bool) : bM (aL _) tab (qf_tbl n) (qf_loops n) qf_an Try.f42 2 qf_a qf_res (m0, (m1, m1_1)) some = qf n m0 m1 m1_1 := by kernel_rfl
def qf_E (n : Nat) : aD := ⟨qf_a, qf_res, fun d => qf n d.1 d.2.1 d.2.2⟩
theorem qf_ok (n : Nat) : cE Try.prog 42 (qf_E n) :=
 cE.ofS aG aF aY (tbl := qf_tbl n) (loops := qf_loops n) (an := qf_an) (old := [some true, some true]) (n := n) (c := qf_c) (fn := Try.f42) (aE.cons (AllE.cons (qc_ok n) AllE.nil) (aE.cons (AllE.cons (qh_ok n) AllE.nil) aE.nil)) (by kernel_rfl) (by kernel_rfl) (by kernel_rfl) (by kernel_rfl) (fun d => by kernel_rfl) LT.nil (fun a => qf_run n a.1 a.2.1 a.2.2)
def qb_h0 : List aI := [⟨.normal, [0, 1, 5, 6], (.cons (.ptr 0 0 0 0) (.cons (.fn 42 (.cons (.ptr 0 0 0 0) .nil) .nil) (.cons (.msw 2 0) (.cons (.int .i64) .nil)))), (.cons (.bcells 0 false 1 (.cons (.ptr 1 0 0 0) (.cons .bool .nil))) (.cons (.bcells 0 false 1 (.cons (.sl false false (.int .u8)) (.cons .bool .nil))) (.cons (.bts 0 false false true yA) .nil)))⟩]
def qb_o0 : List aI := [⟨.exit 0, [5], (.cons (.msw 2 0) .nil), (.cons (.bcells 0 false 1 (.cons (.ptr 1 0 0 0) (.cons .bool .nil))) (.cons (.bcells 0 false 1 (.cons (.sl false false (.int .u8)) (.cons .bool .nil))) (.cons (.bts 0 false false true yA) .nil)))⟩]
def qb_L0 (n : Nat) : aH := ⟨qb_h0, qb_o0, qb_W0 n⟩
def qb_res : List aI := [⟨.ret, [0], (.cons (.sl false true yA) .nil), (.cons (.bcells 0 false 1 (.cons (.ptr 1 0 0 0) (.cons .bool .nil))) (.cons (.bcells 0 false 1 (.cons (.sl false false (.int .u8)) (.cons .bool .nil))) .nil))⟩]
def qb_tbl (n : Nat) : FuncId → List aD := fun f => bif Nat.beq f 39 then [qc_E n] else bif Nat.beq f 47 then [qe_E n] else bif Nat.beq f 42 then [qf_E n] else []
def qb_loops (n : Nat) : Nat → Option aH := fun f => bif Nat.beq f 0 then some (qb_L0 n) else none
theorem qb_r0 (n : Nat) (n_6 : Int) (m0 : Bool) (m1 : DA) (m1_1 : Bool) (m2 : DE) : bU (aL _) tab (qb_tbl n) (qb_loops n) qb_an [some true, some true] qb_l0 0 [0, 1, 5, 6] qb_h0 qb_o0 (n_6, (m0, ((m1, m1_1), m2))) some = qb_B0 n n_6 m0 m1 m1_1 m2 := by kernel_rfl
theorem qb_f0 (n : Nat) : aZ tab (qb_tbl n) (qb_loops n) qb_an [some true, some true] n 0 qb_l0 (qb_L0 n) := ⟨[0, 1, 5, 6], (fun s => qb_B0 n s.1 s.2.1 s.2.2.1.1 s.2.2.1.2 s.2.2.2), by kernel_rfl, by kernel_rfl, fun s => rfl, fun s => qb_r0 n s.1 s.2.1 s.2.2.1.1 s.2.2.1.2 s.2.2.2⟩
theorem qb_run (n : Nat) (m0 : Bool) (m1 : DA) (m1_1 : Bool) : bM (aL _) tab (qb_tbl n) (qb_loops n) qb_an Try.f41 2 qb_a qb_res (m0, (m1, m1_1)) some = qb n m0 m1 m1_1 := by kernel_rfl
def qb_E (n : Nat) : aD := ⟨qb_a, qb_res, fun d => qb n d.1 d.2.1 d.2.2⟩
theorem qb_ok (n : Nat) : cE Try.prog 41 (qb_E n) :=
 cE.ofS aG aF aY (tbl := qb_tbl n) (loops := qb_loops n) (an := qb_an) (old := [some true, some true]) (n := n) (c := qb_c) (fn := Try.f41) (aE.cons (AllE.cons (qc_ok n) AllE.nil) (aE.cons (AllE.cons (qe_ok n) AllE.nil) (aE.cons (AllE.cons (qf_ok n) AllE.nil) aE.nil))) (by kernel_rfl) (by kernel_rfl) (by kernel_rfl) (by kernel_rfl) (fun d => by kernel_rfl) (LT.cons (by kernel_rfl) (qb_f0 n) LT.nil) (fun a => qb_run n a.1 a.2.1 a.2.2)
def qi_an : dJ := { live := [(0, [0, 1, 5, 6])], boxed := [(1, 0), (5, 4)] }
def qi_c : Code := (match Try.f43.body with | some c => c | none => .skip)
def qi_l0 : Code := (match bR 0 (aU qi_c 0) with | some c => c | none => .skip)
def qi_a : aI := ⟨.normal, [0, 1], (.cons (.ptr 0 0 0 0) (.cons (.fn 44 (.cons (.ptr 0 0 0 0) .nil) .nil) .nil)), (.cons (.bcells 0 false 1 (.cons (.ptr 1 0 0 0) (.cons .bool .nil))) (.cons (.bcells 0 false 1 (.cons (.sl false false (.int .u8)) (.cons .bool .nil))) .nil))⟩
def qj_an : dJ := {}
def qj_c : Code := (match Try.f44.body with | some c => c | none => .skip)
def qj_a : aI := ⟨.normal, [0], (.cons (.ptr 0 0 0 0) .nil), (.cons (.bcells 0 false 1 (.cons (.ptr 1 0 0 0) (.cons .bool .nil))) (.cons (.bcells 0 false 1 (.cons (.sl false false (.int .u8)) (.cons .bool .nil))) .nil))⟩
def qj_res : List aI := [⟨.ret, [0], (.cons (.agg (.cons (.int .i64) (.cons (.int .i64) (.cons (.sl false false (.int .u64)) (.cons (.sl false false (.int .u8)) .nil))))) .nil), (.cons (.bcells 0 false 1 (.cons (.ptr 1 0 0 0) (.cons .bool .nil))) (.cons (.bcells 0 false 1 (.cons (.sl false false (.int .u8)) (.cons .bool .nil))) .nil))⟩]
def qj_tbl (n : Nat) : FuncId → List aD := fun f => bif Nat.beq f 39 then [qc_E n] else bif Nat.beq f 77 then [qh_E n] else bif Nat.beq f 75 then [qv_E n] else []
def qj_loops (n : Nat) : Nat → Option aH := fun f => none
theorem qj_run (n : Nat) (m0 : Bool) (m1 : DA) (m1_1 : Bool) : bM (aL _) tab (qj_tbl n) (qj_loops n) qj_an Try.f44 2 qj_a qj_res (m0, (m1, m1_1)) some = qj n m0 m1 m1_1 := by kernel_rfl
def qj_E (n : Nat) : aD := ⟨qj_a, qj_res, fun d => qj n d.1 d.2.1 d.2.2⟩
theorem qj_ok (n : Nat) : cE Try.prog 44 (qj_E n) :=
 cE.ofS aG aF aY (tbl := qj_tbl n) (loops := qj_loops n) (an := qj_an) (old := [some true, some true]) (n := n) (c := qj_c) (fn := Try.f44) (aE.cons (AllE.cons (qc_ok n) AllE.nil) (aE.cons (AllE.cons (qh_ok n) AllE.nil) (aE.cons (AllE.cons (qv_ok n) AllE.nil) aE.nil))) (by kernel_rfl) (by kernel_rfl) (by kernel_rfl) (by kernel_rfl) (fun d => by kernel_rfl) LT.nil (fun a => qj_run n a.1 a.2.1 a.2.2)
def qi_h0 : List aI := [⟨.normal, [0, 1, 5, 6], (.cons (.ptr 0 0 0 0) (.cons (.fn 44 (.cons (.ptr 0 0 0 0) .nil) .nil) (.cons (.msw 2 0) (.cons (.int .i64) .nil)))), (.cons (.bcells 0 false 1 (.cons (.ptr 1 0 0 0) (.cons .bool .nil))) (.cons (.bcells 0 false 1 (.cons (.sl false false (.int .u8)) (.cons .bool .nil))) (.cons (.bts 0 false false true yB) .nil)))⟩]
def qi_o0 : List aI := [⟨.exit 0, [5], (.cons (.msw 2 0) .nil), (.cons (.bcells 0 false 1 (.cons (.ptr 1 0 0 0) (.cons .bool .nil))) (.cons (.bcells 0 false 1 (.cons (.sl false false (.int .u8)) (.cons .bool .nil))) (.cons (.bts 0 false false true yB) .nil)))⟩]
def qi_L0 (n : Nat) : aH := ⟨qi_h0, qi_o0, qi_W0 n⟩
def qi_res : List aI := [⟨.ret, [0], (.cons (.sl false true yB) .nil), (.cons (.bcells 0 false 1 (.cons (.ptr 1 0 0 0) (.cons .bool .nil))) (.cons (.bcells 0 false 1 (.cons (.sl false false (.int .u8)) (.cons .bool .nil))) .nil))⟩]
def qi_tbl (n : Nat) : FuncId → List aD := fun f => bif Nat.beq f 39 then [qc_E n] else bif Nat.beq f 47 then [qe_E n] else bif Nat.beq f 44 then [qj_E n] else []
def qi_loops (n : Nat) : Nat → Option aH := fun f => bif Nat.beq f 0 then some (qi_L0 n) else none
theorem qi_r0 (n : Nat) (n_6 : Int) (m0 : Bool) (m1 : DA) (m1_1 : Bool) (m2 : DE) : bU (aL _) tab (qi_tbl n) (qi_loops n) qi_an [some true, some true] qi_l0 0 [0, 1, 5, 6] qi_h0 qi_o0 (n_6, (m0, ((m1, m1_1), m2))) some = qi_B0 n n_6 m0 m1 m1_1 m2 := by kernel_rfl
theorem qi_f0 (n : Nat) : aZ tab (qi_tbl n) (qi_loops n) qi_an [some true, some true] n 0 qi_l0 (qi_L0 n) := ⟨[0, 1, 5, 6], (fun s => qi_B0 n s.1 s.2.1 s.2.2.1.1 s.2.2.1.2 s.2.2.2), by kernel_rfl, by kernel_rfl, fun s => rfl, fun s => qi_r0 n s.1 s.2.1 s.2.2.1.1 s.2.2.1.2 s.2.2.2⟩
theorem qi_run (n : Nat) (m0 : Bool) (m1 : DA) (m1_1 : Bool) : bM (aL _) tab (qi_tbl n) (qi_loops n) qi_an Try.f43 2 qi_a qi_res (m0, (m1, m1_1)) some = qi n m0 m1 m1_1 := by kernel_rfl
def qi_E (n : Nat) : aD := ⟨qi_a, qi_res, fun d => qi n d.1 d.2.1 d.2.2⟩
theorem qi_ok (n : Nat) : cE Try.prog 43 (qi_E n) :=
 cE.ofS aG aF aY (tbl := qi_tbl n) (loops := qi_loops n) (an := qi_an) (old := [some true, some true]) (n := n) (c := qi_c) (fn := Try.f43) (aE.cons (AllE.cons (qc_ok n) AllE.nil) (aE.cons (AllE.cons (qe_ok n) AllE.nil) (aE.cons (AllE.cons (qj_ok n) AllE.nil) aE.nil))) (by kernel_rfl) (by kernel_rfl) (by kernel_rfl) (by kernel_rfl) (fun d => by kernel_rfl) (LT.cons (by kernel_rfl) (qi_f0 n) LT.nil) (fun a => qi_run n a.1 a.2.1 a.2.2)
def qa_an : dJ := { live := [(0, [0, 1, 5, 6])], boxed := [(1, 0), (5, 4)] }
def qa_c : Code := (match Try.f45.body with | some c => c | none => .skip)
def qa_l0 : Code := (match bR 0 (aU qa_c 0) with | some c => c | none => .skip)
def qa_a : aI := ⟨.normal, [0, 1], (.cons (.ptr 0 0 0 0) (.cons (.fn 46 (.cons (.ptr 0 0 0 0) .nil) .nil) .nil)), (.cons (.bcells 0 false 1 (.cons (.ptr 1 0 0 0) (.cons .bool .nil))) (.cons (.bcells 0 false 1 (.cons (.sl false false (.int .u8)) (.cons .bool .nil))) .nil))⟩
def qp_an : dJ := {}
def qp_c : Code := (match Try.f46.body with | some c => c | none => .skip)
def qp_a : aI := ⟨.normal, [0], (.cons (.ptr 0 0 0 0) .nil), (.cons (.bcells 0 false 1 (.cons (.ptr 1 0 0 0) (.cons .bool .nil))) (.cons (.bcells 0 false 1 (.cons (.sl false false (.int .u8)) (.cons .bool .nil))) .nil))⟩
def qp_res : List aI := [⟨.ret, [0], (.cons (.agg (.cons (.int .i64) (.cons (.int .u64) (.cons .bool .nil)))) .nil), (.cons (.bcells 0 false 1 (.cons (.ptr 1 0 0 0) (.cons .bool .nil))) (.cons (.bcells 0 false 1 (.cons (.sl false false (.int .u8)) (.cons .bool .nil))) .nil))⟩]
def qp_tbl (n : Nat) : FuncId → List aD := fun f => bif Nat.beq f 39 then [qc_E n] else bif Nat.beq f 40 then [qt_E n] else []
def qp_loops (n : Nat) : Nat → Option aH := fun f => none
theorem qp_run (n : Nat) (m0 : Bool) (m1 : DA) (m1_1 : Bool) : bM (aL _) tab (qp_tbl n) (qp_loops n) qp_an Try.f46 2 qp_a qp_res (m0, (m1, m1_1)) some = qp n m0 m1 m1_1 := by kernel_rfl
def qp_E (n : Nat) : aD := ⟨qp_a, qp_res, fun d => qp n d.1 d.2.1 d.2.2⟩
theorem qp_ok (n : Nat) : cE Try.prog 46 (qp_E n) :=
 cE.ofS aG aF aY (tbl := qp_tbl n) (loops := qp_loops n) (an := qp_an) (old := [some true, some true]) (n := n) (c := qp_c) (fn := Try.f46) (aE.cons (AllE.cons (qc_ok n) AllE.nil) (aE.cons (AllE.cons (qt_ok n) AllE.nil) aE.nil)) (by kernel_rfl) (by kernel_rfl) (by kernel_rfl) (by kernel_rfl) (fun d => by kernel_rfl) LT.nil (fun a => qp_run n a.1 a.2.1 a.2.2)
def qa_h0 : List aI := [⟨.normal, [0, 1, 5, 6], (.cons (.ptr 0 0 0 0) (.cons (.fn 46 (.cons (.ptr 0 0 0 0) .nil) .nil) (.cons (.msw 2 0) (.cons (.int .i64) .nil)))), (.cons (.bcells 0 false 1 (.cons (.ptr 1 0 0 0) (.cons .bool .nil))) (.cons (.bcells 0 false 1 (.cons (.sl false false (.int .u8)) (.cons .bool .nil))) (.cons (.bts 0 false false true yC) .nil)))⟩]
def qa_o0 : List aI := [⟨.exit 0, [5], (.cons (.msw 2 0) .nil), (.cons (.bcells 0 false 1 (.cons (.ptr 1 0 0 0) (.cons .bool .nil))) (.cons (.bcells 0 false 1 (.cons (.sl false false (.int .u8)) (.cons .bool .nil))) (.cons (.bts 0 false false true yC) .nil)))⟩]
def qa_L0 (n : Nat) : aH := ⟨qa_h0, qa_o0, qa_W0 n⟩
def qa_res : List aI := [⟨.ret, [0], (.cons (.sl false true yC) .nil), (.cons (.bcells 0 false 1 (.cons (.ptr 1 0 0 0) (.cons .bool .nil))) (.cons (.bcells 0 false 1 (.cons (.sl false false (.int .u8)) (.cons .bool .nil))) .nil))⟩]
def qa_tbl (n : Nat) : FuncId → List aD := fun f => bif Nat.beq f 39 then [qc_E n] else bif Nat.beq f 47 then [qe_E n] else bif Nat.beq f 46 then [qp_E n] else []
def qa_loops (n : Nat) : Nat → Option aH := fun f => bif Nat.beq f 0 then some (qa_L0 n) else none
theorem qa_r0 (n : Nat) (n_6 : Int) (m0 : Bool) (m1 : DA) (m1_1 : Bool) (m2 : DB) : bU (aL _) tab (qa_tbl n) (qa_loops n) qa_an [some true, some true] qa_l0 0 [0, 1, 5, 6] qa_h0 qa_o0 (n_6, (m0, ((m1, m1_1), m2))) some = qa_B0 n n_6 m0 m1 m1_1 m2 := by kernel_rfl
theorem qa_f0 (n : Nat) : aZ tab (qa_tbl n) (qa_loops n) qa_an [some true, some true] n 0 qa_l0 (qa_L0 n) := ⟨[0, 1, 5, 6], (fun s => qa_B0 n s.1 s.2.1 s.2.2.1.1 s.2.2.1.2 s.2.2.2), by kernel_rfl, by kernel_rfl, fun s => rfl, fun s => qa_r0 n s.1 s.2.1 s.2.2.1.1 s.2.2.1.2 s.2.2.2⟩
theorem qa_run (n : Nat) (m0 : Bool) (m1 : DA) (m1_1 : Bool) : bM (aL _) tab (qa_tbl n) (qa_loops n) qa_an Try.f45 2 qa_a qa_res (m0, (m1, m1_1)) some = qa n m0 m1 m1_1 := by kernel_rfl
def qa_E (n : Nat) : aD := ⟨qa_a, qa_res, fun d => qa n d.1 d.2.1 d.2.2⟩
theorem qa_ok (n : Nat) : cE Try.prog 45 (qa_E n) :=
 cE.ofS aG aF aY (tbl := qa_tbl n) (loops := qa_loops n) (an := qa_an) (old := [some true, some true]) (n := n) (c := qa_c) (fn := Try.f45) (aE.cons (AllE.cons (qc_ok n) AllE.nil) (aE.cons (AllE.cons (qe_ok n) AllE.nil) (aE.cons (AllE.cons (qp_ok n) AllE.nil) aE.nil))) (by kernel_rfl) (by kernel_rfl) (by kernel_rfl) (by kernel_rfl) (fun d => by kernel_rfl) (LT.cons (by kernel_rfl) (qa_f0 n) LT.nil) (fun a => qa_run n a.1 a.2.1 a.2.2)
def qw_an : dJ := {}
def qw_c : Code := (match Try.f48.body with | some c => c | none => .skip)
def qw_a : aI := ⟨.normal, [0], (.cons (.ptr 0 0 0 0) .nil), (.cons (.bcells 0 false 1 (.cons (.sl false false (.int .u8)) (.cons .bool .nil))) .nil)⟩
def qw_res : List aI := [⟨.ret, [0], (.cons (.int .i64) .nil), (.cons (.bcells 0 false 1 (.cons (.sl false false (.int .u8)) (.cons .bool .nil))) .nil)⟩]
def qw_tbl (n : Nat) : FuncId → List aD := fun f => bif Nat.beq f 55 then [qz_E n] else []
def qw_loops (n : Nat) : Nat → Option aH := fun f => none
theorem qw_run (n : Nat) (m0 : DA) (m0_1 : Bool) : bM (aL _) tab (qw_tbl n) (qw_loops n) qw_an Try.f48 1 qw_a qw_res (m0, m0_1) some = qw n m0 m0_1 := by kernel_rfl
def qw_E (n : Nat) : aD := ⟨qw_a, qw_res, fun d => qw n d.1 d.2⟩
theorem qw_ok (n : Nat) : cE Try.prog 48 (qw_E n) :=
 cE.ofS aG aF aY (tbl := qw_tbl n) (loops := qw_loops n) (an := qw_an) (old := [some true]) (n := n) (c := qw_c) (fn := Try.f48) (aE.cons (AllE.cons (qz_ok n) AllE.nil) aE.nil) (by kernel_rfl) (by kernel_rfl) (by kernel_rfl) (by kernel_rfl) (fun d => by kernel_rfl) LT.nil (fun a => qw_run n a.1 a.2)
def qaf_res : List aI := [⟨.ret, [0], (.cons (.tup (.cons (.agg (.cons (.sl false true yA) (.cons (.sl false true yB) (.cons (.sl false true yC) (.cons (.int .i64) (.cons (.int .i64) (.cons (.int .i64) (.cons (.int .u64) .nil)))))))) (.cons (.int .u32) (.cons (.int .i64) .nil)))) .nil), .nil⟩]
def qaf_tbl (n : Nat) : FuncId → List aD := fun f => bif Nat.beq f 38 then [qad_E n] else bif Nat.beq f 39 then [qq_E n, qc_E n] else bif Nat.beq f 40 then [qt_E n] else bif Nat.beq f 41 then [qb_E n] else bif Nat.beq f 43 then [qi_E n] else bif Nat.beq f 45 then [qa_E n] else bif Nat.beq f 47 then [qe_E n] else bif Nat.beq f 48 then [qw_E n] else []
def qaf_loops (n : Nat) : Nat → Option aH := fun f => none
theorem qaf_run (n : Nat) (b_0 : DA) : bM (aL _) tab (qaf_tbl n) (qaf_loops n) qaf_an Try.f15 0 qaf_a qaf_res b_0 some = qaf n b_0 := by kernel_rfl
def qaf_E (n : Nat) : aD := ⟨qaf_a, qaf_res, fun d => qaf n d⟩
theorem qaf_ok (n : Nat) : cE Try.prog 15 (qaf_E n) :=
 cE.ofS aG aF aY (tbl := qaf_tbl n) (loops := qaf_loops n) (an := qaf_an) (old := []) (n := n) (c := qaf_c) (fn := Try.f15) (aE.cons (AllE.cons (qad_ok n) AllE.nil) (aE.cons (AllE.cons (qq_ok n) (AllE.cons (qc_ok n) AllE.nil)) (aE.cons (AllE.cons (qt_ok n) AllE.nil) (aE.cons (AllE.cons (qb_ok n) AllE.nil) (aE.cons (AllE.cons (qi_ok n) AllE.nil) (aE.cons (AllE.cons (qa_ok n) AllE.nil) (aE.cons (AllE.cons (qe_ok n) AllE.nil) (aE.cons (AllE.cons (qw_ok n) AllE.nil) aE.nil)))))))) (by kernel_rfl) (by kernel_rfl) (by kernel_rfl) (by kernel_rfl) (fun d => by kernel_rfl) LT.nil (fun a => qaf_run n a)
def qx_res : List aI := [⟨.ret, [0], (.cons .bool .nil), .nil⟩]
def qx_tbl (n : Nat) : FuncId → List aD := fun f => bif Nat.beq f 12 then [qae_E n] else bif Nat.beq f 15 then [qaf_E n] else []
def qx_loops (n : Nat) : Nat → Option aH := fun f => none
theorem qx_run (n : Nat) : bM (aL _) tab (qx_tbl n) (qx_loops n) qx_an Try.f11 0 qx_a qx_res () some = qx n := by kernel_rfl
def qx_E (n : Nat) : aD := ⟨qx_a, qx_res, fun d => qx n⟩
theorem qx_ok (n : Nat) : cE Try.prog 11 (qx_E n) :=
 cE.ofS aG aF aY (tbl := qx_tbl n) (loops := qx_loops n) (an := qx_an) (old := []) (n := n) (c := qx_c) (fn := Try.f11) (aE.cons (AllE.cons (qae_ok n) AllE.nil) (aE.cons (AllE.cons (qaf_ok n) AllE.nil) aE.nil)) (by kernel_rfl) (by kernel_rfl) (by kernel_rfl) (by kernel_rfl) (fun d => by kernel_rfl) LT.nil (fun a => qx_run n)
def qak_an : dJ := { live := [(0, [2, 3, 7, 8, 9, 10, 11]), (2, [2, 3, 7, 8, 9, 10, 13]), (4, [2, 3, 7, 8, 9, 10, 15])], boxed := [(0, 1), (1, 0), (4, 4), (5, 15), (6, 0), (6, 1), (6, 2), (11, 10), (11, 15), (11, 20), (16, 10), (16, 15), (17, 8), (17, 11), (25, 10), (26, 8), (27, 8), (28, 8), (30, 2), (30, 4), (30, 6), (31, 2), (31, 4), (31, 6)], raw := [(26, 6), (27, 6), (28, 6), (32, 1)] }
def qak_c : Code := (match Try.f14.body with | some c => c | none => .skip)
def qak_l0 : Code := (match bR 0 (aU qak_c 0) with | some c => c | none => .skip)
def qak_l2 : Code := (match bR 2 (aU qak_c 0) with | some c => c | none => .skip)
def qak_l4 : Code := (match bR 4 (aU qak_c 0) with | some c => c | none => .skip)
def qak_a : aI := ⟨.normal, [0, 1, 2], (.cons (.agg (.cons (.sl true true yA) (.cons (.sl true true yB) (.cons (.sl true true yC) (.cons (.int .i64) (.cons (.int .i64) (.cons (.int .i64) (.cons (.int .u64) .nil)))))))) (.cons (.int .u32) (.cons .bool .nil))), .nil⟩
def qah_an : dJ := { live := [(0, [0, 1, 5, 6])], boxed := [(1, 0), (5, 5)] }
def qah_c : Code := (match Try.f34.body with | some c => c | none => .skip)
def qah_l0 : Code := (match bR 0 (aU qah_c 0) with | some c => c | none => .skip)
def qah_a : aI := ⟨.normal, [0, 1], (.cons (.int .u64) (.cons (.int .i64) .nil)), .nil⟩
def qah_h0 : List aI := [⟨.normal, [0, 1, 5, 6], (.cons (.int .u64) (.cons (.int .i64) (.cons (.msw 0 0) (.cons (.int .i64) .nil)))), (.cons (.bts 0 false false false (.int .u8)) .nil)⟩]
def qah_o0 : List aI := [⟨.exit 0, [5], (.cons (.msw 0 0) .nil), (.cons (.bts 0 false false false (.int .u8)) .nil)⟩]
def qah_L0 (n : Nat) : aH := ⟨qah_h0, qah_o0, qah_W0 n⟩
def qah_res : List aI := [⟨.ret, [0], (.cons (.sl false false (.int .u8)) .nil), .nil⟩]
def qah_tbl (n : Nat) : FuncId → List aD := fun f => []
def qah_loops (n : Nat) : Nat → Option aH := fun f => bif Nat.beq f 0 then some (qah_L0 n) else none
theorem qah_r0 (n : Nat) (v_0 : Int) (n_1 : Int) (k_6 : Int) (m0 : DA) : bU (aL _) tab (qah_tbl n) (qah_loops n) qah_an [] qah_l0 0 [0, 1, 5, 6] qah_h0 qah_o0 ((v_0, (n_1, k_6)), m0) some = qah_B0 n v_0 n_1 k_6 m0 := by kernel_rfl
theorem qah_f0 (n : Nat) : aZ tab (qah_tbl n) (qah_loops n) qah_an [] n 0 qah_l0 (qah_L0 n) := ⟨[0, 1, 5, 6], (fun s => qah_B0 n s.1.1 s.1.2.1 s.1.2.2 s.2), by kernel_rfl, by kernel_rfl, fun s => rfl, fun s => qah_r0 n s.1.1 s.1.2.1 s.1.2.2 s.2⟩
theorem qah_run (n : Nat) (v_0 : Int) (n_1 : Int) : bM (aL _) tab (qah_tbl n) (qah_loops n) qah_an Try.f34 0 qah_a qah_res (v_0, n_1) some = qah n v_0 n_1 := by kernel_rfl
def qah_E (n : Nat) : aD := ⟨qah_a, qah_res, fun d => qah n d.1 d.2⟩
theorem qah_ok (n : Nat) : cE Try.prog 34 (qah_E n) :=
 cE.ofS aG aF aY (tbl := qah_tbl n) (loops := qah_loops n) (an := qah_an) (old := []) (n := n) (c := qah_c) (fn := Try.f34) aE.nil (by kernel_rfl) (by kernel_rfl) (by kernel_rfl) (by kernel_rfl) (fun d => by kernel_rfl) (LT.cons (by kernel_rfl) (qah_f0 n) LT.nil) (fun a => qah_run n a.1 a.2)
def qag_an : dJ := {}
def qag_c : Code := (match Try.f36.body with | some c => c | none => .skip)
def qag_a : aI := ⟨.normal, [0], (.cons (.int .i64) .nil), .nil⟩
def qag_res : List aI := [⟨.ret, [0], (.cons (.int .u64) .nil), .nil⟩]
def qag_tbl (n : Nat) : FuncId → List aD := fun f => []
def qag_loops (n : Nat) : Nat → Option aH := fun f => none
theorem qag_run (n : Nat) (n_0 : Int) : bM (aL _) tab (qag_tbl n) (qag_loops n) qag_an Try.f36 0 qag_a qag_res n_0 some = qag n n_0 := by kernel_rfl
def qag_E (n : Nat) : aD := ⟨qag_a, qag_res, fun d => qag n d⟩
theorem qag_ok (n : Nat) : cE Try.prog 36 (qag_E n) :=
 cE.ofS aG aF aY (tbl := qag_tbl n) (loops := qag_loops n) (an := qag_an) (old := []) (n := n) (c := qag_c) (fn := Try.f36) aE.nil (by kernel_rfl) (by kernel_rfl) (by kernel_rfl) (by kernel_rfl) (fun d => by kernel_rfl) LT.nil (fun a => qag_run n a)
def qap_an : dJ := { live := [(0, [0, 1, 5, 6])], boxed := [(0, 0), (1, 0), (6, 6), (7, 6)] }
def qap_c : Code := (match Try.f35.body with | some c => c | none => .skip)
def qap_l0 : Code := (match bR 0 (aU qap_c 0) with | some c => c | none => .skip)
def qap_a : aI := ⟨.normal, [0, 1], (.cons .bool (.cons (.sl true false (.int .u64)) .nil)), .nil⟩
def qar_an : dJ := { boxed := [(3, 4)] }
def qar_c : Code := (match Try.f71.body with | some c => c | none => .skip)
def qar_a : aI := ⟨.normal, [0], (.cons (.int .u64) .nil), .nil⟩
def qar_res : List aI := [⟨.ret, [0], (.cons (.sl false false (.int .u8)) .nil), .nil⟩]
def qar_Ed (n d : Nat) : aD := ⟨qar_a, qar_res, qar_D n d⟩
def qar_tbl (n d : Nat) : FuncId → List aD := fun f => bif Nat.beq f 71 then [qar_Ed n d] else []
def qar_loops (n : Nat) : Nat → Option aH := fun f => none
theorem qar_run (n d : Nat) (v_0 : Int) : bM (aL _) tab (qar_tbl n d) (qar_loops n) qar_an Try.f71 0 qar_a qar_res v_0 some = qar_D n (d + 1) v_0 := by kernel_rfl
def qar_E (n : Nat) : aD := ⟨qar_a, qar_res, fun d => qar n d⟩
theorem qar_okd (n : Nat) (d : Nat) : cE Try.prog 71 (qar_Ed n d) :=
 Nat.rec (cE.none (by kernel_rfl) fun _ => rfl) (fun d ih => cE.ofS aG aF aY (tbl := qar_tbl n d) (loops := qar_loops n) (an := qar_an) (old := []) (n := n) (c := qar_c) (fn := Try.f71) (aE.cons (AllE.cons ih AllE.nil) aE.nil) (by kernel_rfl) (by kernel_rfl) (by kernel_rfl) (by kernel_rfl) (fun d => by kernel_rfl) LT.nil (fun a => qar_run n d a)) d
theorem qar_ok (n : Nat) : cE Try.prog 71 (qar_E n) := qar_okd n n
def qap_h0 : List aI := [⟨.normal, [0, 1, 5, 6], (.cons .bool (.cons (.sl true false (.int .u64)) (.cons (.msw 0 0) (.cons (.int .i64) .nil)))), (.cons (.bts 0 false false false (.int .u8)) .nil)⟩]
def qap_o0 : List aI := [⟨.exit 0, [5], (.cons (.msw 0 0) .nil), (.cons (.bts 0 false false false (.int .u8)) .nil)⟩]
def qap_L0 (n : Nat) : aH := ⟨qap_h0, qap_o0, qap_W0 n⟩
def qap_res : List aI := [⟨.ret, [0], (.cons (.msw 0 0) .nil), (.cons (.bts 0 false false false (.int .u8)) .nil)⟩]
def qap_tbl (n : Nat) : FuncId → List aD := fun f => bif Nat.beq f 34 then [qah_E n] else bif Nat.beq f 71 then [qar_E n] else []
def qap_loops (n : Nat) : Nat → Option aH := fun f => bif Nat.beq f 0 then some (qap_L0 n) else none
theorem qap_r0 (n : Nat) (old_0 : Bool) (l_1 : DA) (i_6 : Int) (m0 : DA) : bU (aL _) tab (qap_tbl n) (qap_loops n) qap_an [] qap_l0 0 [0, 1, 5, 6] qap_h0 qap_o0 ((old_0, (l_1, i_6)), m0) some = qap_B0 n old_0 l_1 i_6 m0 := by kernel_rfl
theorem qap_f0 (n : Nat) : aZ tab (qap_tbl n) (qap_loops n) qap_an [] n 0 qap_l0 (qap_L0 n) := ⟨[0, 1, 5, 6], (fun s => qap_B0 n s.1.1 s.1.2.1 s.1.2.2 s.2), by kernel_rfl, by kernel_rfl, fun s => rfl, fun s => qap_r0 n s.1.1 s.1.2.1 s.1.2.2 s.2⟩
theorem qap_run (n : Nat) (old_0 : Bool) (l_1 : DA) : Je (aL _) tab (qap_tbl n) (qap_loops n) qap_an Try.f35 qap_a qap_res (old_0, l_1) some = qap n old_0 l_1 := by kernel_rfl
def qap_E (n : Nat) : aD := ⟨qap_a, qap_res, fun d => qap n d.1 d.2⟩
theorem qap_ok (n : Nat) : cE Try.prog 35 (qap_E n) :=
 cE.of aG aF aY (tbl := qap_tbl n) (loops := qap_loops n) (an := qap_an) (old := []) (n := n) (c := qap_c) (fn := Try.f35) (aE.cons (AllE.cons (qah_ok n) AllE.nil) (aE.cons (AllE.cons (qar_ok n) AllE.nil) aE.nil)) (by kernel_rfl) (by kernel_rfl) (by kernel_rfl) (by kernel_rfl) (fun d => by kernel_rfl) (LT.cons (by kernel_rfl) (qap_f0 n) LT.nil) (fun a => qap_run n a.1 a.2)
def qan_an : dJ := { boxed := [(1, 4)] }
def qan_c : Code := (match Try.f37.body with | some c => c | none => .skip)
def qan_a : aI := ⟨.normal, [0, 1], (.cons .bool (.cons (.sl true false (.int .u64)) .nil)), .nil⟩
def qan_res : List aI := [⟨.ret, [0], (.cons (.sl false false (.int .u8)) .nil), .nil⟩]
def qan_tbl (n : Nat) : FuncId → List aD := fun f => bif Nat.beq f 35 then [qap_E n] else []
def qan_loops (n : Nat) : Nat → Option aH := fun f => none
theorem qan_run (n : Nat) (old_0 : Bool) (l_1 : DA) : bM (aL _) tab (qan_tbl n) (qan_loops n) qan_an Try.f37 0 qan_a qan_res (old_0, l_1) some = qan n old_0 l_1 := by kernel_rfl
def qan_E (n : Nat) : aD := ⟨qan_a, qan_res, fun d => qan n d.1 d.2⟩
theorem qan_ok (n : Nat) : cE Try.prog 37 (qan_E n) :=
 cE.ofS aG aF aY (tbl := qan_tbl n) (loops := qan_loops n) (an := qan_an) (old := []) (n := n) (c := qan_c) (fn := Try.f37) (aE.cons (AllE.cons (qap_ok n) AllE.nil) aE.nil) (by kernel_rfl) (by kernel_rfl) (by kernel_rfl) (by kernel_rfl) (fun d => by kernel_rfl) LT.nil (fun a => qan_run n a.1 a.2)
def qak_h0 : List aI := [⟨.normal, [2, 3, 7, 8, 9, 10, 11], (.cons .bool (.cons (.ptr 0 0 0 0) (.cons (.msw 1 0) (.cons (.msw 2 0) (.cons (.msw 3 0) (.cons (.msw 4 0) (.cons (.int .i64) .nil))))))), (.cons (.bcells 0 false 1 (.cons (.sl true true yA) (.cons (.sl true true yB) (.cons (.sl true true yC) (.cons (.int .i64) (.cons (.int .i64) (.cons (.int .i64) (.cons (.int .u64) .nil)))))))) (.cons (.bts 0 false false false (.int .u8)) (.cons (.bts 0 false false false (.int .u8)) (.cons (.bts 0 false false false (.int .u8)) (.cons (.bts 0 false false false (.int .u8)) .nil)))))⟩]
def qak_o0 : List aI := [⟨.exit 0, [2, 3, 7, 8, 9, 10], (.cons .bool (.cons (.ptr 0 0 0 0) (.cons (.msw 1 0) (.cons (.msw 2 0) (.cons (.msw 3 0) (.cons (.msw 4 0) .nil)))))), (.cons (.bcells 0 false 1 (.cons (.sl true true yA) (.cons (.sl true true yB) (.cons (.sl true true yC) (.cons (.int .i64) (.cons (.int .i64) (.cons (.int .i64) (.cons (.int .u64) .nil)))))))) (.cons (.bts 0 false false false (.int .u8)) (.cons (.bts 0 false false false (.int .u8)) (.cons (.bts 0 false false false (.int .u8)) (.cons (.bts 0 false false false (.int .u8)) .nil)))))⟩]
def qak_L0 (n : Nat) : aH := ⟨qak_h0, qak_o0, qak_W0 n⟩
def qak_h2 : List aI := [⟨.normal, [2, 3, 7, 8, 9, 10, 13], (.cons .bool (.cons (.ptr 0 0 0 0) (.cons (.msw 1 0) (.cons (.msw 2 0) (.cons (.msw 3 0) (.cons (.msw 4 0) (.cons (.int .i64) .nil))))))), (.cons (.bcells 0 false 1 (.cons (.sl true true yA) (.cons (.sl true true yB) (.cons (.sl true true yC) (.cons (.int .i64) (.cons (.int .i64) (.cons (.int .i64) (.cons (.int .u64) .nil)))))))) (.cons (.bts 0 false false false (.int .u8)) (.cons (.bts 0 false false false (.int .u8)) (.cons (.bts 0 false false false (.int .u8)) (.cons (.bts 0 false false false (.int .u8)) .nil)))))⟩]
def qak_o2 : List aI := [⟨.exit 2, [2, 3, 7, 8, 9, 10], (.cons .bool (.cons (.ptr 0 0 0 0) (.cons (.msw 1 0) (.cons (.msw 2 0) (.cons (.msw 3 0) (.cons (.msw 4 0) .nil)))))), (.cons (.bcells 0 false 1 (.cons (.sl true true yA) (.cons (.sl true true yB) (.cons (.sl true true yC) (.cons (.int .i64) (.cons (.int .i64) (.cons (.int .i64) (.cons (.int .u64) .nil)))))))) (.cons (.bts 0 false false false (.int .u8)) (.cons (.bts 0 false false false (.int .u8)) (.cons (.bts 0 false false false (.int .u8)) (.cons (.bts 0 false false false (.int .u8)) .nil)))))⟩]
def qak_L2 (n : Nat) : aH := ⟨qak_h2, qak_o2, qak_W2 n⟩
def qak_h4 : List aI := [⟨.normal, [2, 3, 7, 8, 9, 10, 15], (.cons .bool (.cons (.ptr 0 0 0 0) (.cons (.msw 1 0) (.cons (.msw 2 0) (.cons (.msw 3 0) (.cons (.msw 4 0) (.cons (.int .i64) .nil))))))), (.cons (.bcells 0 false 1 (.cons (.sl true true yA) (.cons (.sl true true yB) (.cons (.sl true true yC) (.cons (.int .i64) (.cons (.int .i64) (.cons (.int .i64) (.cons (.int .u64) .nil)))))))) (.cons (.bts 0 false false false (.int .u8)) (.cons (.bts 0 false false false (.int .u8)) (.cons (.bts 0 false false false (.int .u8)) (.cons (.bts 0 false false false (.int .u8)) .nil)))))⟩]
def qak_o4 : List aI := [⟨.exit 4, [2, 3, 7, 8, 9, 10], (.cons .bool (.cons (.ptr 0 0 0 0) (.cons (.msw 1 0) (.cons (.msw 2 0) (.cons (.msw 3 0) (.cons (.msw 4 0) .nil)))))), (.cons (.bcells 0 false 1 (.cons (.sl true true yA) (.cons (.sl true true yB) (.cons (.sl true true yC) (.cons (.int .i64) (.cons (.int .i64) (.cons (.int .i64) (.cons (.int .u64) .nil)))))))) (.cons (.bts 0 false false false (.int .u8)) (.cons (.bts 0 false false false (.int .u8)) (.cons (.bts 0 false false false (.int .u8)) (.cons (.bts 0 false false false (.int .u8)) .nil)))))⟩]
def qak_L4 (n : Nat) : aH := ⟨qak_h4, qak_o4, qak_W4 n⟩
def qal_an : dJ := { boxed := [(0, 0), (1, 0), (1, 2), (1, 7)] }
def qal_c : Code := (match Try.f18.body with | some c => c | none => .skip)
def qal_a : aI := ⟨.normal, [0], (.cons (.sl true false (.int .u8)) .nil), .nil⟩
def qat_an : dJ := { live := [(0, [0, 3, 4]), (2, [0, 3, 4, 5])] }
def qat_c : Code := (match Try.f52.body with | some c => c | none => .skip)
def qat_l0 : Code := (match bR 0 (aU qat_c 0) with | some c => c | none => .skip)
def qat_l2 : Code := (match bR 2 (aU qat_c 0) with | some c => c | none => .skip)
def qat_a : aI := ⟨.normal, [0], (.cons (.sl true false (.int .u8)) .nil), .nil⟩
def qat_h2 : List aI := [⟨.normal, [0, 3, 4, 5], (.cons (.sl true false (.int .u8)) (.cons (.int .u32) (.cons (.int .i64) (.cons (.int .i64) .nil)))), .nil⟩]
def qat_o2 : List aI := [⟨.exit 2, [0, 3, 4], (.cons (.sl true false (.int .u8)) (.cons (.int .u32) (.cons (.int .i64) .nil))), .nil⟩]
def qat_L2 (n : Nat) : aH := ⟨qat_h2, qat_o2, qat_W2 n⟩
def qat_h0 : List aI := [⟨.normal, [0, 3, 4], (.cons (.sl true false (.int .u8)) (.cons (.int .u32) (.cons (.int .i64) .nil))), .nil⟩]
def qat_o0 : List aI := [⟨.exit 0, [3], (.cons (.int .u32) .nil), .nil⟩]
def qat_L0 (n : Nat) : aH := ⟨qat_h0, qat_o0, qat_W0 n⟩
def qat_res : List aI := [⟨.ret, [0], (.cons (.int .u32) .nil), .nil⟩]
def qat_tbl (n : Nat) : FuncId → List aD := fun f => []
def qat_loops (n : Nat) : Nat → Option aH := fun f => bif Nat.beq f 2 then some (qat_L2 n) else bif Nat.beq f 0 then some (qat_L0 n) else none
theorem qat_r2 (n : Nat) (b_0 : DA) (n_3 : Int) (i_4 : Int) (k_5 : Int) : bU (aL _) tab (qat_tbl n) (qat_loops n) qat_an [] qat_l2 2 [0, 3, 4, 5] qat_h2 qat_o2 (b_0, (n_3, (i_4, k_5))) some = qat_B2 n b_0 n_3 i_4 k_5 := by kernel_rfl
theorem qat_f2 (n : Nat) : aZ tab (qat_tbl n) (qat_loops n) qat_an [] n 2 qat_l2 (qat_L2 n) := ⟨[0, 3, 4, 5], (fun s => qat_B2 n s.1 s.2.1 s.2.2.1 s.2.2.2), by kernel_rfl, by kernel_rfl, fun s => rfl, fun s => qat_r2 n s.1 s.2.1 s.2.2.1 s.2.2.2⟩
theorem qat_r0 (n : Nat) (b_0 : DA) (n_3 : Int) (i_4 : Int) : bU (aL _) tab (qat_tbl n) (qat_loops n) qat_an [] qat_l0 0 [0, 3, 4] qat_h0 qat_o0 (b_0, (n_3, i_4)) some = qat_B0 n b_0 n_3 i_4 := by kernel_rfl
theorem qat_f0 (n : Nat) : aZ tab (qat_tbl n) (qat_loops n) qat_an [] n 0 qat_l0 (qat_L0 n) := ⟨[0, 3, 4], (fun s => qat_B0 n s.1 s.2.1 s.2.2), by kernel_rfl, by kernel_rfl, fun s => rfl, fun s => qat_r0 n s.1 s.2.1 s.2.2⟩
theorem qat_run (n : Nat) (b_0 : DA) : bM (aL _) tab (qat_tbl n) (qat_loops n) qat_an Try.f52 0 qat_a qat_res b_0 some = qat n b_0 := by kernel_rfl
def qat_E (n : Nat) : aD := ⟨qat_a, qat_res, fun d => qat n d⟩
theorem qat_ok (n : Nat) : cE Try.prog 52 (qat_E n) :=
 cE.ofS aG aF aY (tbl := qat_tbl n) (loops := qat_loops n) (an := qat_an) (old := []) (n := n) (c := qat_c) (fn := Try.f52) aE.nil (by kernel_rfl) (by kernel_rfl) (by kernel_rfl) (by kernel_rfl) (fun d => by kernel_rfl) (LT.cons (by kernel_rfl) (qat_f2 n) (LT.cons (by kernel_rfl) (qat_f0 n) LT.nil)) (fun a => qat_run n a)
def qal_res : List aI := [⟨.ret, [0], (.cons (.msw 0 0) .nil), (.cons (.bts 0 false false false (.int .u8)) .nil)⟩]
def qal_tbl (n : Nat) : FuncId → List aD := fun f => bif Nat.beq f 52 then [qat_E n] else bif Nat.beq f 34 then [qah_E n] else []
def qal_loops (n : Nat) : Nat → Option aH := fun f => none
theorem qal_run (n : Nat) (b_0 : DA) : Je (aL _) tab (qal_tbl n) (qal_loops n) qal_an Try.f18 qal_a qal_res b_0 some = qal n b_0 := by kernel_rfl
def qal_E (n : Nat) : aD := ⟨qal_a, qal_res, fun d => qal n d⟩
theorem qal_ok (n : Nat) : cE Try.prog 18 (qal_E n) :=
 cE.of aG aF aY (tbl := qal_tbl n) (loops := qal_loops n) (an := qal_an) (old := []) (n := n) (c := qal_c) (fn := Try.f18) (aE.cons (AllE.cons (qat_ok n) AllE.nil) (aE.cons (AllE.cons (qah_ok n) AllE.nil) aE.nil)) (by kernel_rfl) (by kernel_rfl) (by kernel_rfl) (by kernel_rfl) (fun d => by kernel_rfl) LT.nil (fun a => qal_run n a)
def qak_res : List aI := [⟨.ret, [0], (.cons (.msw 0 0) .nil), (.cons (.bts 0 false false false (.int .u8)) .nil)⟩]
def qak_tbl (n : Nat) : FuncId → List aD := fun f => bif Nat.beq f 34 then [qah_E n] else bif Nat.beq f 36 then [qag_E n] else bif Nat.beq f 35 then [qap_E n] else bif Nat.beq f 37 then [qan_E n] else bif Nat.beq f 18 then [qal_E n] else []
def qak_loops (n : Nat) : Nat → Option aH := fun f => bif Nat.beq f 0 then some (qak_L0 n) else bif Nat.beq f 2 then some (qak_L2 n) else bif Nat.beq f 4 then some (qak_L4 n) else none
theorem qak_r0 (n : Nat) (t2 : Bool) (t11 : Int) (m0 : DE) (m0_1 : DE) (m0_2 : DB) (m0_3 : Int) (m0_4 : Int) (m0_5 : Int) (m0_6 : Int) (m1 : DA) (m2 : DA) (m3 : DA) (m4 : DA) : bU (aL _) tab (qak_tbl n) (qak_loops n) qak_an [] qak_l0 0 [2, 3, 7, 8, 9, 10, 11] qak_h0 qak_o0 ((t2, t11), ((m0, (m0_1, (m0_2, (m0_3, (m0_4, (m0_5, m0_6)))))), (m1, (m2, (m3, m4))))) some = qak_B0 n t2 t11 m0 m0_1 m0_2 m0_3 m0_4 m0_5 m0_6 m1 m2 m3 m4 := by kernel_rfl
theorem qak_f0 (n : Nat) : aZ tab (qak_tbl n) (qak_loops n) qak_an [] n 0 qak_l0 (qak_L0 n) := ⟨[2, 3, 7, 8, 9, 10, 11], (fun s => qak_B0 n s.1.1 s.1.2 s.2.1.1 s.2.1.2.1 s.2.1.2.2.1 s.2.1.2.2.2.1 s.2.1.2.2.2.2.1 s.2.1.2.2.2.2.2.1 s.2.1.2.2.2.2.2.2 s.2.2.1 s.2.2.2.1 s.2.2.2.2.1 s.2.2.2.2.2), by kernel_rfl, by kernel_rfl, fun s => rfl, fun s => qak_r0 n s.1.1 s.1.2 s.2.1.1 s.2.1.2.1 s.2.1.2.2.1 s.2.1.2.2.2.1 s.2.1.2.2.2.2.1 s.2.1.2.2.2.2.2.1 s.2.1.2.2.2.2.2.2 s.2.2.1 s.2.2.2.1 s.2.2.2.2.1 s.2.2.2.2.2⟩
theorem qak_r2 (n : Nat) (t2 : Bool) (t13 : Int) (m0 : DE) (m0_1 : DE) (m0_2 : DB) (m0_3 : Int) (m0_4 : Int) (m0_5 : Int) (m0_6 : Int) (m1 : DA) (m2 : DA) (m3 : DA) (m4 : DA) : bU (aL _) tab (qak_tbl n) (qak_loops n) qak_an [] qak_l2 2 [2, 3, 7, 8, 9, 10, 13] qak_h2 qak_o2 ((t2, t13), ((m0, (m0_1, (m0_2, (m0_3, (m0_4, (m0_5, m0_6)))))), (m1, (m2, (m3, m4))))) some = qak_B2 n t2 t13 m0 m0_1 m0_2 m0_3 m0_4 m0_5 m0_6 m1 m2 m3 m4 := by kernel_rfl
theorem qak_f2 (n : Nat) : aZ tab (qak_tbl n) (qak_loops n) qak_an [] n 2 qak_l2 (qak_L2 n) := ⟨[2, 3, 7, 8, 9, 10, 13], (fun s => qak_B2 n s.1.1 s.1.2 s.2.1.1 s.2.1.2.1 s.2.1.2.2.1 s.2.1.2.2.2.1 s.2.1.2.2.2.2.1 s.2.1.2.2.2.2.2.1 s.2.1.2.2.2.2.2.2 s.2.2.1 s.2.2.2.1 s.2.2.2.2.1 s.2.2.2.2.2), by kernel_rfl, by kernel_rfl, fun s => rfl, fun s => qak_r2 n s.1.1 s.1.2 s.2.1.1 s.2.1.2.1 s.2.1.2.2.1 s.2.1.2.2.2.1 s.2.1.2.2.2.2.1 s.2.1.2.2.2.2.2.1 s.2.1.2.2.2.2.2.2 s.2.2.1 s.2.2.2.1 s.2.2.2.2.1 s.2.2.2.2.2⟩
theorem qak_r4 (n : Nat) (t2 : Bool) (t15 : Int) (m0 : DE) (m0_1 : DE) (m0_2 : DB) (m0_3 : Int) (m0_4 : Int) (m0_5 : Int) (m0_6 : Int) (m1 : DA) (m2 : DA) (m3 : DA) (m4 : DA) : bU (aL _) tab (qak_tbl n) (qak_loops n) qak_an [] qak_l4 4 [2, 3, 7, 8, 9, 10, 15] qak_h4 qak_o4 ((t2, t15), ((m0, (m0_1, (m0_2, (m0_3, (m0_4, (m0_5, m0_6)))))), (m1, (m2, (m3, m4))))) some = qak_B4 n t2 t15 m0 m0_1 m0_2 m0_3 m0_4 m0_5 m0_6 m1 m2 m3 m4 := by kernel_rfl
theorem qak_f4 (n : Nat) : aZ tab (qak_tbl n) (qak_loops n) qak_an [] n 4 qak_l4 (qak_L4 n) := ⟨[2, 3, 7, 8, 9, 10, 15], (fun s => qak_B4 n s.1.1 s.1.2 s.2.1.1 s.2.1.2.1 s.2.1.2.2.1 s.2.1.2.2.2.1 s.2.1.2.2.2.2.1 s.2.1.2.2.2.2.2.1 s.2.1.2.2.2.2.2.2 s.2.2.1 s.2.2.2.1 s.2.2.2.2.1 s.2.2.2.2.2), by kernel_rfl, by kernel_rfl, fun s => rfl, fun s => qak_r4 n s.1.1 s.1.2 s.2.1.1 s.2.1.2.1 s.2.1.2.2.1 s.2.1.2.2.2.1 s.2.1.2.2.2.2.1 s.2.1.2.2.2.2.2.1 s.2.1.2.2.2.2.2.2 s.2.2.1 s.2.2.2.1 s.2.2.2.2.1 s.2.2.2.2.2⟩
theorem qak_run (n : Nat) (t0 : DE) (t0_1 : DE) (t0_2 : DB) (t0_3 : Int) (t0_4 : Int) (t0_5 : Int) (t0_6 : Int) (t1 : Int) (t2 : Bool) : Je (aL _) tab (qak_tbl n) (qak_loops n) qak_an Try.f14 qak_a qak_res ((t0, (t0_1, (t0_2, (t0_3, (t0_4, (t0_5, t0_6)))))), (t1, t2)) some = qak n t0 t0_1 t0_2 t0_3 t0_4 t0_5 t0_6 t1 t2 := by kernel_rfl
def qak_E (n : Nat) : aD := ⟨qak_a, qak_res, fun d => qak n d.1.1 d.1.2.1 d.1.2.2.1 d.1.2.2.2.1 d.1.2.2.2.2.1 d.1.2.2.2.2.2.1 d.1.2.2.2.2.2.2 d.2.1 d.2.2⟩
theorem qak_ok (n : Nat) : cE Try.prog 14 (qak_E n) :=
 cE.of aG aF aY (tbl := qak_tbl n) (loops := qak_loops n) (an := qak_an) (old := []) (n := n) (c := qak_c) (fn := Try.f14) (aE.cons (AllE.cons (qah_ok n) AllE.nil) (aE.cons (AllE.cons (qag_ok n) AllE.nil) (aE.cons (AllE.cons (qap_ok n) AllE.nil) (aE.cons (AllE.cons (qan_ok n) AllE.nil) (aE.cons (AllE.cons (qal_ok n) AllE.nil) aE.nil))))) (by kernel_rfl) (by kernel_rfl) (by kernel_rfl) (by kernel_rfl) (fun d => by kernel_rfl) (LT.cons (by kernel_rfl) (qak_f0 n) (LT.cons (by kernel_rfl) (qak_f2 n) (LT.cons (by kernel_rfl) (qak_f4 n) LT.nil))) (fun a => qak_run n a.1.1 a.1.2.1 a.1.2.2.1 a.1.2.2.2.1 a.1.2.2.2.2.1 a.1.2.2.2.2.2.1 a.1.2.2.2.2.2.2 a.2.1 a.2.2)
def qaq_an : dJ := { live := [(0, [0, 1, 5])] }
def qaq_c : Code := (match Try.f13.body with | some c => c | none => .skip)
def qaq_l0 : Code := (match bR 0 (aU qaq_c 0) with | some c => c | none => .skip)
def qaq_a : aI := ⟨.normal, [0, 1], (.cons (.sl true false (.int .u8)) (.cons (.sl true false (.int .u8)) .nil)), .nil⟩
def qaq_h0 : List aI := [⟨.normal, [0, 1, 5], (.cons (.sl true false (.int .u8)) (.cons (.sl true false (.int .u8)) (.cons (.int .i64) .nil))), .nil⟩]
def qaq_o0 : List aI := [⟨.ret, [4], (.cons .bool .nil), .nil⟩, ⟨.exit 0, [], .nil, .nil⟩]
def qaq_L0 (n : Nat) : aH := ⟨qaq_h0, qaq_o0, qaq_W0 n⟩
def qaq_res : List aI := [⟨.ret, [0], (.cons .bool .nil), .nil⟩]
def qaq_tbl (n : Nat) : FuncId → List aD := fun f => []
def qaq_loops (n : Nat) : Nat → Option aH := fun f => bif Nat.beq f 0 then some (qaq_L0 n) else none
theorem qaq_r0 (n : Nat) (a_0 : DA) (b_1 : DA) (i_5 : Int) : bU (aL _) tab (qaq_tbl n) (qaq_loops n) qaq_an [] qaq_l0 0 [0, 1, 5] qaq_h0 qaq_o0 (a_0, (b_1, i_5)) some = qaq_B0 n a_0 b_1 i_5 := by kernel_rfl
theorem qaq_f0 (n : Nat) : aZ tab (qaq_tbl n) (qaq_loops n) qaq_an [] n 0 qaq_l0 (qaq_L0 n) := ⟨[0, 1, 5], (fun s => qaq_B0 n s.1 s.2.1 s.2.2), by kernel_rfl, by kernel_rfl, fun s => rfl, fun s => qaq_r0 n s.1 s.2.1 s.2.2⟩
theorem qaq_run (n : Nat) (a_0 : DA) (b_1 : DA) : bM (aL _) tab (qaq_tbl n) (qaq_loops n) qaq_an Try.f13 0 qaq_a qaq_res (a_0, b_1) some = qaq n a_0 b_1 := by kernel_rfl
def qaq_E (n : Nat) : aD := ⟨qaq_a, qaq_res, fun d => qaq n d.1 d.2⟩
theorem qaq_ok (n : Nat) : cE Try.prog 13 (qaq_E n) :=
 cE.ofS aG aF aY (tbl := qaq_tbl n) (loops := qaq_loops n) (an := qaq_an) (old := []) (n := n) (c := qaq_c) (fn := Try.f13) aE.nil (by kernel_rfl) (by kernel_rfl) (by kernel_rfl) (by kernel_rfl) (fun d => by kernel_rfl) (LT.cons (by kernel_rfl) (qaq_f0 n) LT.nil) (fun a => qaq_run n a.1 a.2)
def qai_an : dJ := { live := [(0, [1, 3, 4]), (2, [1, 3, 5]), (4, [1, 3, 6]), (6, [3, 7])], boxed := [(1, 6), (5, 14), (9, 14), (13, 8)] }
def qai_c : Code := (match Try.f16.body with | some c => c | none => .skip)
def qai_l0 : Code := (match bR 0 (aU qai_c 0) with | some c => c | none => .skip)
def qai_l2 : Code := (match bR 2 (aU qai_c 0) with | some c => c | none => .skip)
def qai_l4 : Code := (match bR 4 (aU qai_c 0) with | some c => c | none => .skip)
def qai_l6 : Code := (match bR 6 (aU qai_c 0) with | some c => c | none => .skip)
def qai_a : aI := ⟨.normal, [0], (.cons (.agg (.cons (.sl true true yA) (.cons (.sl true true yB) (.cons (.sl true true yC) (.cons (.int .i64) (.cons (.int .i64) (.cons (.int .i64) (.cons (.int .u64) .nil)))))))) .nil), .nil⟩
def qai_h0 : List aI := [⟨.normal, [1, 3, 4], (.cons (.ptr 0 0 0 0) (.cons (.msw 1 0) (.cons (.int .i64) .nil))), (.cons (.bcells 0 false 1 (.cons (.sl true true yA) (.cons (.sl true true yB) (.cons (.sl true true yC) (.cons (.int .i64) (.cons (.int .i64) (.cons (.int .i64) (.cons (.int .u64) .nil)))))))) (.cons (.bts 0 false false false (.int .i64)) .nil))⟩]
def qai_o0 : List aI := [⟨.exit 0, [1, 3], (.cons (.ptr 0 0 0 0) (.cons (.msw 1 0) .nil)), (.cons (.bcells 0 false 1 (.cons (.sl true true yA) (.cons (.sl true true yB) (.cons (.sl true true yC) (.cons (.int .i64) (.cons (.int .i64) (.cons (.int .i64) (.cons (.int .u64) .nil)))))))) (.cons (.bts 0 false false false (.int .i64)) .nil))⟩]
def qai_L0 (n : Nat) : aH := ⟨qai_h0, qai_o0, qai_W0 n⟩
def qai_h2 : List aI := [⟨.normal, [1, 3, 5], (.cons (.ptr 0 0 0 0) (.cons (.msw 1 0) (.cons (.int .i64) .nil))), (.cons (.bcells 0 false 1 (.cons (.sl true true yA) (.cons (.sl true true yB) (.cons (.sl true true yC) (.cons (.int .i64) (.cons (.int .i64) (.cons (.int .i64) (.cons (.int .u64) .nil)))))))) (.cons (.bts 0 false false false (.int .i64)) .nil))⟩]
def qai_o2 : List aI := [⟨.exit 2, [1, 3], (.cons (.ptr 0 0 0 0) (.cons (.msw 1 0) .nil)), (.cons (.bcells 0 false 1 (.cons (.sl true true yA) (.cons (.sl true true yB) (.cons (.sl true true yC) (.cons (.int .i64) (.cons (.int .i64) (.cons (.int .i64) (.cons (.int .u64) .nil)))))))) (.cons (.bts 0 false false false (.int .i64)) .nil))⟩]
def qai_L2 (n : Nat) : aH := ⟨qai_h2, qai_o2, qai_W2 n⟩
def qai_h4 : List aI := [⟨.normal, [1, 3, 6], (.cons (.ptr 0 0 0 0) (.cons (.msw 1 0) (.cons (.int .i64) .nil))), (.cons (.bcells 0 false 1 (.cons (.sl true true yA) (.cons (.sl true true yB) (.cons (.sl true true yC) (.cons (.int .i64) (.cons (.int .i64) (.cons (.int .i64) (.cons (.int .u64) .nil)))))))) (.cons (.bts 0 false false false (.int .i64)) .nil))⟩]
def qai_o4 : List aI := [⟨.exit 4, [3], (.cons (.msw 1 0) .nil), (.cons (.bcells 0 false 1 (.cons (.sl true true yA) (.cons (.sl true true yB) (.cons (.sl true true yC) (.cons (.int .i64) (.cons (.int .i64) (.cons (.int .i64) (.cons (.int .u64) .nil)))))))) (.cons (.bts 0 false false false (.int .i64)) .nil))⟩]
def qai_L4 (n : Nat) : aH := ⟨qai_h4, qai_o4, qai_W4 n⟩
def qai_h6 : List aI := [⟨.normal, [3, 7], (.cons (.msw 0 0) (.cons (.int .i64) .nil)), (.cons (.bts 0 false false false (.int .i64)) .nil)⟩]
def qai_o6 : List aI := [⟨.ret, [2], (.cons .bool .nil), (.cons (.bts 0 false false false (.int .i64)) .nil)⟩, ⟨.exit 6, [], .nil, (.cons (.bts 0 false false false (.int .i64)) .nil)⟩]
def qai_L6 (n : Nat) : aH := ⟨qai_h6, qai_o6, qai_W6 n⟩
def qai_res : List aI := [⟨.ret, [0], (.cons .bool .nil), .nil⟩]
def qai_tbl (n : Nat) : FuncId → List aD := fun f => []
def qai_loops (n : Nat) : Nat → Option aH := fun f => bif Nat.beq f 0 then some (qai_L0 n) else bif Nat.beq f 2 then some (qai_L2 n) else bif Nat.beq f 4 then some (qai_L4 n) else bif Nat.beq f 6 then some (qai_L6 n) else none
theorem qai_r0 (n : Nat) (t4 : Int) (m0 : DE) (m0_1 : DE) (m0_2 : DB) (m0_3 : Int) (m0_4 : Int) (m0_5 : Int) (m0_6 : Int) (m1 : DA) : bU (aL _) tab (qai_tbl n) (qai_loops n) qai_an [] qai_l0 0 [1, 3, 4] qai_h0 qai_o0 (t4, ((m0, (m0_1, (m0_2, (m0_3, (m0_4, (m0_5, m0_6)))))), m1)) some = qai_B0 n t4 m0 m0_1 m0_2 m0_3 m0_4 m0_5 m0_6 m1 := by kernel_rfl
theorem qai_f0 (n : Nat) : aZ tab (qai_tbl n) (qai_loops n) qai_an [] n 0 qai_l0 (qai_L0 n) := ⟨[1, 3, 4], (fun s => qai_B0 n s.1 s.2.1.1 s.2.1.2.1 s.2.1.2.2.1 s.2.1.2.2.2.1 s.2.1.2.2.2.2.1 s.2.1.2.2.2.2.2.1 s.2.1.2.2.2.2.2.2 s.2.2), by kernel_rfl, by kernel_rfl, fun s => rfl, fun s => qai_r0 n s.1 s.2.1.1 s.2.1.2.1 s.2.1.2.2.1 s.2.1.2.2.2.1 s.2.1.2.2.2.2.1 s.2.1.2.2.2.2.2.1 s.2.1.2.2.2.2.2.2 s.2.2⟩
theorem qai_r2 (n : Nat) (t5 : Int) (m0 : DE) (m0_1 : DE) (m0_2 : DB) (m0_3 : Int) (m0_4 : Int) (m0_5 : Int) (m0_6 : Int) (m1 : DA) : bU (aL _) tab (qai_tbl n) (qai_loops n) qai_an [] qai_l2 2 [1, 3, 5] qai_h2 qai_o2 (t5, ((m0, (m0_1, (m0_2, (m0_3, (m0_4, (m0_5, m0_6)))))), m1)) some = qai_B2 n t5 m0 m0_1 m0_2 m0_3 m0_4 m0_5 m0_6 m1 := by kernel_rfl
theorem qai_f2 (n : Nat) : aZ tab (qai_tbl n) (qai_loops n) qai_an [] n 2 qai_l2 (qai_L2 n) := ⟨[1, 3, 5], (fun s => qai_B2 n s.1 s.2.1.1 s.2.1.2.1 s.2.1.2.2.1 s.2.1.2.2.2.1 s.2.1.2.2.2.2.1 s.2.1.2.2.2.2.2.1 s.2.1.2.2.2.2.2.2 s.2.2), by kernel_rfl, by kernel_rfl, fun s => rfl, fun s => qai_r2 n s.1 s.2.1.1 s.2.1.2.1 s.2.1.2.2.1 s.2.1.2.2.2.1 s.2.1.2.2.2.2.1 s.2.1.2.2.2.2.2.1 s.2.1.2.2.2.2.2.2 s.2.2⟩
theorem qai_r4 (n : Nat) (t6 : Int) (m0 : DE) (m0_1 : DE) (m0_2 : DB) (m0_3 : Int) (m0_4 : Int) (m0_5 : Int) (m0_6 : Int) (m1 : DA) : bU (aL _) tab (qai_tbl n) (qai_loops n) qai_an [] qai_l4 4 [1, 3, 6] qai_h4 qai_o4 (t6, ((m0, (m0_1, (m0_2, (m0_3, (m0_4, (m0_5, m0_6)))))), m1)) some = qai_B4 n t6 m0 m0_1 m0_2 m0_3 m0_4 m0_5 m0_6 m1 := by kernel_rfl
theorem qai_f4 (n : Nat) : aZ tab (qai_tbl n) (qai_loops n) qai_an [] n 4 qai_l4 (qai_L4 n) := ⟨[1, 3, 6], (fun s => qai_B4 n s.1 s.2.1.1 s.2.1.2.1 s.2.1.2.2.1 s.2.1.2.2.2.1 s.2.1.2.2.2.2.1 s.2.1.2.2.2.2.2.1 s.2.1.2.2.2.2.2.2 s.2.2), by kernel_rfl, by kernel_rfl, fun s => rfl, fun s => qai_r4 n s.1 s.2.1.1 s.2.1.2.1 s.2.1.2.2.1 s.2.1.2.2.2.1 s.2.1.2.2.2.2.1 s.2.1.2.2.2.2.2.1 s.2.1.2.2.2.2.2.2 s.2.2⟩
theorem qai_r6 (n : Nat) (t7 : Int) (m0 : DA) : bU (aL _) tab (qai_tbl n) (qai_loops n) qai_an [] qai_l6 6 [3, 7] qai_h6 qai_o6 (t7, m0) some = qai_B6 n t7 m0 := by kernel_rfl
theorem qai_f6 (n : Nat) : aZ tab (qai_tbl n) (qai_loops n) qai_an [] n 6 qai_l6 (qai_L6 n) := ⟨[3, 7], (fun s => qai_B6 n s.1 s.2), by kernel_rfl, by kernel_rfl, fun s => rfl, fun s => qai_r6 n s.1 s.2⟩
theorem qai_run (n : Nat) (t0 : DE) (t0_1 : DE) (t0_2 : DB) (t0_3 : Int) (t0_4 : Int) (t0_5 : Int) (t0_6 : Int) : bM (aL _) tab (qai_tbl n) (qai_loops n) qai_an Try.f16 0 qai_a qai_res (t0, (t0_1, (t0_2, (t0_3, (t0_4, (t0_5, t0_6)))))) some = qai n t0 t0_1 t0_2 t0_3 t0_4 t0_5 t0_6 := by kernel_rfl
def qai_E (n : Nat) : aD := ⟨qai_a, qai_res, fun d => qai n d.1 d.2.1 d.2.2.1 d.2.2.2.1 d.2.2.2.2.1 d.2.2.2.2.2.1 d.2.2.2.2.2.2⟩
theorem qai_ok (n : Nat) : cE Try.prog 16 (qai_E n) :=
 cE.ofS aG aF aY (tbl := qai_tbl n) (loops := qai_loops n) (an := qai_an) (old := []) (n := n) (c := qai_c) (fn := Try.f16) aE.nil (by kernel_rfl) (by kernel_rfl) (by kernel_rfl) (by kernel_rfl) (fun d => by kernel_rfl) (LT.cons (by kernel_rfl) (qai_f0 n) (LT.cons (by kernel_rfl) (qai_f2 n) (LT.cons (by kernel_rfl) (qai_f4 n) (LT.cons (by kernel_rfl) (qai_f6 n) LT.nil)))) (fun a => qai_run n a.1 a.2.1 a.2.2.1 a.2.2.2.1 a.2.2.2.2.1 a.2.2.2.2.2.1 a.2.2.2.2.2.2)
def qac_an : dJ := { live := [(0, [2, 3, 5])] }
def qac_c : Code := (match Try.f17.body with | some c => c | none => .skip)
def qac_l0 : Code := (match bR 0 (aU qac_c 0) with | some c => c | none => .skip)
def qac_a : aI := ⟨.normal, [0, 1], (.cons (.agg (.cons (.sl true true yA) (.cons (.sl true true yB) (.cons (.sl true true yC) (.cons (.int .i64) (.cons (.int .i64) (.cons (.int .i64) (.cons (.int .u64) .nil)))))))) (.cons (.agg (.cons (.sl true true yA) (.cons (.sl true true yB) (.cons (.sl true true yC) (.cons (.int .i64) (.cons (.int .i64) (.cons (.int .i64) (.cons (.int .u64) .nil)))))))) .nil)), .nil⟩
def qaj_an : dJ := { live := [(0, [0, 1, 5])] }
def qaj_c : Code := (match Try.f49.body with | some c => c | none => .skip)
def qaj_l0 : Code := (match bR 0 (aU qaj_c 0) with | some c => c | none => .skip)
def qaj_a : aI := ⟨.normal, [0, 1], (.cons (.sl true false (.int .u64)) (.cons (.sl true false (.int .u64)) .nil)), .nil⟩
def qaj_h0 : List aI := [⟨.normal, [0, 1, 5], (.cons (.sl true false (.int .u64)) (.cons (.sl true false (.int .u64)) (.cons (.int .i64) .nil))), .nil⟩]
def qaj_o0 : List aI := [⟨.ret, [4], (.cons .bool .nil), .nil⟩, ⟨.exit 0, [], .nil, .nil⟩]
def qaj_L0 (n : Nat) : aH := ⟨qaj_h0, qaj_o0, qaj_W0 n⟩
def qaj_res : List aI := [⟨.ret, [0], (.cons .bool .nil), .nil⟩]
def qaj_tbl (n : Nat) : FuncId → List aD := fun f => []
def qaj_loops (n : Nat) : Nat → Option aH := fun f => bif Nat.beq f 0 then some (qaj_L0 n) else none
theorem qaj_r0 (n : Nat) (a_0 : DA) (b_1 : DA) (i_5 : Int) : bU (aL _) tab (qaj_tbl n) (qaj_loops n) qaj_an [] qaj_l0 0 [0, 1, 5] qaj_h0 qaj_o0 (a_0, (b_1, i_5)) some = qaj_B0 n a_0 b_1 i_5 := by kernel_rfl
theorem qaj_f0 (n : Nat) : aZ tab (qaj_tbl n) (qaj_loops n) qaj_an [] n 0 qaj_l0 (qaj_L0 n) := ⟨[0, 1, 5], (fun s => qaj_B0 n s.1 s.2.1 s.2.2), by kernel_rfl, by kernel_rfl, fun s => rfl, fun s => qaj_r0 n s.1 s.2.1 s.2.2⟩
theorem qaj_run (n : Nat) (a_0 : DA) (b_1 : DA) : bM (aL _) tab (qaj_tbl n) (qaj_loops n) qaj_an Try.f49 0 qaj_a qaj_res (a_0, b_1) some = qaj n a_0 b_1 := by kernel_rfl
def qaj_E (n : Nat) : aD := ⟨qaj_a, qaj_res, fun d => qaj n d.1 d.2⟩
theorem qaj_ok (n : Nat) : cE Try.prog 49 (qaj_E n) :=
 cE.ofS aG aF aY (tbl := qaj_tbl n) (loops := qaj_loops n) (an := qaj_an) (old := []) (n := n) (c := qaj_c) (fn := Try.f49) aE.nil (by kernel_rfl) (by kernel_rfl) (by kernel_rfl) (by kernel_rfl) (fun d => by kernel_rfl) (LT.cons (by kernel_rfl) (qaj_f0 n) LT.nil) (fun a => qaj_run n a.1 a.2)
def qac_h0 : List aI := [⟨.normal, [2, 3, 5], (.cons (.ptr 0 0 0 0) (.cons (.ptr 1 0 0 0) (.cons (.int .i64) .nil))), (.cons (.bcells 0 false 1 (.cons (.sl true true yA) (.cons (.sl true true yB) (.cons (.sl true true yC) (.cons (.int .i64) (.cons (.int .i64) (.cons (.int .i64) (.cons (.int .u64) .nil)))))))) (.cons (.bcells 0 false 1 (.cons (.sl true true yA) (.cons (.sl true true yB) (.cons (.sl true true yC) (.cons (.int .i64) (.cons (.int .i64) (.cons (.int .i64) (.cons (.int .u64) .nil)))))))) .nil))⟩]
def qac_o0 : List aI := [⟨.ret, [4], (.cons .bool .nil), (.cons (.bcells 0 false 1 (.cons (.sl true true yA) (.cons (.sl true true yB) (.cons (.sl true true yC) (.cons (.int .i64) (.cons (.int .i64) (.cons (.int .i64) (.cons (.int .u64) .nil)))))))) (.cons (.bcells 0 false 1 (.cons (.sl true true yA) (.cons (.sl true true yB) (.cons (.sl true true yC) (.cons (.int .i64) (.cons (.int .i64) (.cons (.int .i64) (.cons (.int .u64) .nil)))))))) (.cons (.bcells 0 false 1 (.cons (.int .i64) (.cons (.int .i64) (.cons (.sl true false (.int .u64)) (.cons (.sl true false (.int .u64)) .nil))))) (.cons (.bcells 0 false 1 (.cons (.int .i64) (.cons (.int .i64) (.cons (.sl true false (.int .u64)) (.cons (.sl true false (.int .u64)) .nil))))) .nil))))⟩, ⟨.exit 0, [2, 3], (.cons (.ptr 0 0 0 0) (.cons (.ptr 1 0 0 0) .nil)), (.cons (.bcells 0 false 1 (.cons (.sl true true yA) (.cons (.sl true true yB) (.cons (.sl true true yC) (.cons (.int .i64) (.cons (.int .i64) (.cons (.int .i64) (.cons (.int .u64) .nil)))))))) (.cons (.bcells 0 false 1 (.cons (.sl true true yA) (.cons (.sl true true yB) (.cons (.sl true true yC) (.cons (.int .i64) (.cons (.int .i64) (.cons (.int .i64) (.cons (.int .u64) .nil)))))))) .nil))⟩]
def qac_L0 (n : Nat) : aH := ⟨qac_h0, qac_o0, qac_W0 n⟩
def qao_an : dJ := { live := [(0, [0, 1, 5])] }
def qao_c : Code := (match Try.f50.body with | some c => c | none => .skip)
def qao_l0 : Code := (match bR 0 (aU qao_c 0) with | some c => c | none => .skip)
def qao_a : aI := ⟨.normal, [0, 1], (.cons (.sl true true yB) (.cons (.sl true true yB) .nil)), .nil⟩
def qao_h0 : List aI := [⟨.normal, [0, 1, 5], (.cons (.sl true true yB) (.cons (.sl true true yB) (.cons (.int .i64) .nil))), .nil⟩]
def qao_o0 : List aI := [⟨.ret, [4], (.cons .bool .nil), .nil⟩, ⟨.exit 0, [], .nil, .nil⟩]
def qao_L0 (n : Nat) : aH := ⟨qao_h0, qao_o0, qao_W0 n⟩
def qao_res : List aI := [⟨.ret, [0], (.cons .bool .nil), .nil⟩]
def qao_tbl (n : Nat) : FuncId → List aD := fun f => bif Nat.beq f 49 then [qaj_E n] else bif Nat.beq f 13 then [qaq_E n] else []
def qao_loops (n : Nat) : Nat → Option aH := fun f => bif Nat.beq f 0 then some (qao_L0 n) else none
theorem qao_r0 (n : Nat) (t0 : DE) (t1 : DE) (t5 : Int) : bU (aL _) tab (qao_tbl n) (qao_loops n) qao_an [] qao_l0 0 [0, 1, 5] qao_h0 qao_o0 (t0, (t1, t5)) some = qao_B0 n t0 t1 t5 := by kernel_rfl
theorem qao_f0 (n : Nat) : aZ tab (qao_tbl n) (qao_loops n) qao_an [] n 0 qao_l0 (qao_L0 n) := ⟨[0, 1, 5], (fun s => qao_B0 n s.1 s.2.1 s.2.2), by kernel_rfl, by kernel_rfl, fun s => rfl, fun s => qao_r0 n s.1 s.2.1 s.2.2⟩
theorem qao_run (n : Nat) (t0 : DE) (t1 : DE) : bM (aL _) tab (qao_tbl n) (qao_loops n) qao_an Try.f50 0 qao_a qao_res (t0, t1) some = qao n t0 t1 := by kernel_rfl
def qao_E (n : Nat) : aD := ⟨qao_a, qao_res, fun d => qao n d.1 d.2⟩
theorem qao_ok (n : Nat) : cE Try.prog 50 (qao_E n) :=
 cE.ofS aG aF aY (tbl := qao_tbl n) (loops := qao_loops n) (an := qao_an) (old := []) (n := n) (c := qao_c) (fn := Try.f50) (aE.cons (AllE.cons (qaj_ok n) AllE.nil) (aE.cons (AllE.cons (qaq_ok n) AllE.nil) aE.nil)) (by kernel_rfl) (by kernel_rfl) (by kernel_rfl) (by kernel_rfl) (fun d => by kernel_rfl) (LT.cons (by kernel_rfl) (qao_f0 n) LT.nil) (fun a => qao_run n a.1 a.2)
def qam_an : dJ := { live := [(0, [0, 1, 5])] }
def qam_c : Code := (match Try.f51.body with | some c => c | none => .skip)
def qam_l0 : Code := (match bR 0 (aU qam_c 0) with | some c => c | none => .skip)
def qam_a : aI := ⟨.normal, [0, 1], (.cons (.sl true true yC) (.cons (.sl true true yC) .nil)), .nil⟩
def qam_h0 : List aI := [⟨.normal, [0, 1, 5], (.cons (.sl true true yC) (.cons (.sl true true yC) (.cons (.int .i64) .nil))), .nil⟩]
def qam_o0 : List aI := [⟨.ret, [4], (.cons .bool .nil), .nil⟩, ⟨.exit 0, [], .nil, .nil⟩]
def qam_L0 (n : Nat) : aH := ⟨qam_h0, qam_o0, qam_W0 n⟩
def qam_res : List aI := [⟨.ret, [0], (.cons .bool .nil), .nil⟩]
def qam_tbl (n : Nat) : FuncId → List aD := fun f => []
def qam_loops (n : Nat) : Nat → Option aH := fun f => bif Nat.beq f 0 then some (qam_L0 n) else none
theorem qam_r0 (n : Nat) (a_0 : DB) (b_1 : DB) (i_5 : Int) : bU (aL _) tab (qam_tbl n) (qam_loops n) qam_an [] qam_l0 0 [0, 1, 5] qam_h0 qam_o0 (a_0, (b_1, i_5)) some = qam_B0 n a_0 b_1 i_5 := by kernel_rfl
theorem qam_f0 (n : Nat) : aZ tab (qam_tbl n) (qam_loops n) qam_an [] n 0 qam_l0 (qam_L0 n) := ⟨[0, 1, 5], (fun s => qam_B0 n s.1 s.2.1 s.2.2), by kernel_rfl, by kernel_rfl, fun s => rfl, fun s => qam_r0 n s.1 s.2.1 s.2.2⟩
theorem qam_run (n : Nat) (a_0 : DB) (b_1 : DB) : bM (aL _) tab (qam_tbl n) (qam_loops n) qam_an Try.f51 0 qam_a qam_res (a_0, b_1) some = qam n a_0 b_1 := by kernel_rfl
def qam_E (n : Nat) : aD := ⟨qam_a, qam_res, fun d => qam n d.1 d.2⟩
theorem qam_ok (n : Nat) : cE Try.prog 51 (qam_E n) :=
 cE.ofS aG aF aY (tbl := qam_tbl n) (loops := qam_loops n) (an := qam_an) (old := []) (n := n) (c := qam_c) (fn := Try.f51) aE.nil (by kernel_rfl) (by kernel_rfl) (by kernel_rfl) (by kernel_rfl) (fun d => by kernel_rfl) (LT.cons (by kernel_rfl) (qam_f0 n) LT.nil) (fun a => qam_run n a.1 a.2)
def qac_res : List aI := [⟨.ret, [0], (.cons .bool .nil), .nil⟩]
def qac_tbl (n : Nat) : FuncId → List aD := fun f => bif Nat.beq f 49 then [qaj_E n] else bif Nat.beq f 50 then [qao_E n] else bif Nat.beq f 51 then [qam_E n] else []
def qac_loops (n : Nat) : Nat → Option aH := fun f => bif Nat.beq f 0 then some (qac_L0 n) else none
theorem qac_r0 (n : Nat) (t5 : Int) (m0 : DE) (m0_1 : DE) (m0_2 : DB) (m0_3 : Int) (m0_4 : Int) (m0_5 : Int) (m0_6 : Int) (m1 : DE) (m1_1 : DE) (m1_2 : DB) (m1_3 : Int) (m1_4 : Int) (m1_5 : Int) (m1_6 : Int) : bU (aL _) tab (qac_tbl n) (qac_loops n) qac_an [] qac_l0 0 [2, 3, 5] qac_h0 qac_o0 (t5, ((m0, (m0_1, (m0_2, (m0_3, (m0_4, (m0_5, m0_6)))))), (m1, (m1_1, (m1_2, (m1_3, (m1_4, (m1_5, m1_6)))))))) some = qac_B0 n t5 m0 m0_1 m0_2 m0_3 m0_4 m0_5 m0_6 m1 m1_1 m1_2 m1_3 m1_4 m1_5 m1_6 := by kernel_rfl
theorem qac_f0 (n : Nat) : aZ tab (qac_tbl n) (qac_loops n) qac_an [] n 0 qac_l0 (qac_L0 n) := ⟨[2, 3, 5], (fun s => qac_B0 n s.1 s.2.1.1 s.2.1.2.1 s.2.1.2.2.1 s.2.1.2.2.2.1 s.2.1.2.2.2.2.1 s.2.1.2.2.2.2.2.1 s.2.1.2.2.2.2.2.2 s.2.2.1 s.2.2.2.1 s.2.2.2.2.1 s.2.2.2.2.2.1 s.2.2.2.2.2.2.1 s.2.2.2.2.2.2.2.1 s.2.2.2.2.2.2.2.2), by kernel_rfl, by kernel_rfl, fun s => rfl, fun s => qac_r0 n s.1 s.2.1.1 s.2.1.2.1 s.2.1.2.2.1 s.2.1.2.2.2.1 s.2.1.2.2.2.2.1 s.2.1.2.2.2.2.2.1 s.2.1.2.2.2.2.2.2 s.2.2.1 s.2.2.2.1 s.2.2.2.2.1 s.2.2.2.2.2.1 s.2.2.2.2.2.2.1 s.2.2.2.2.2.2.2.1 s.2.2.2.2.2.2.2.2⟩
theorem qac_run (n : Nat) (t0 : DE) (t0_1 : DE) (t0_2 : DB) (t0_3 : Int) (t0_4 : Int) (t0_5 : Int) (t0_6 : Int) (t1 : DE) (t1_1 : DE) (t1_2 : DB) (t1_3 : Int) (t1_4 : Int) (t1_5 : Int) (t1_6 : Int) : bM (aL _) tab (qac_tbl n) (qac_loops n) qac_an Try.f17 0 qac_a qac_res ((t0, (t0_1, (t0_2, (t0_3, (t0_4, (t0_5, t0_6)))))), (t1, (t1_1, (t1_2, (t1_3, (t1_4, (t1_5, t1_6))))))) some = qac n t0 t0_1 t0_2 t0_3 t0_4 t0_5 t0_6 t1 t1_1 t1_2 t1_3 t1_4 t1_5 t1_6 := by kernel_rfl
def qac_E (n : Nat) : aD := ⟨qac_a, qac_res, fun d => qac n d.1.1 d.1.2.1 d.1.2.2.1 d.1.2.2.2.1 d.1.2.2.2.2.1 d.1.2.2.2.2.2.1 d.1.2.2.2.2.2.2 d.2.1 d.2.2.1 d.2.2.2.1 d.2.2.2.2.1 d.2.2.2.2.2.1 d.2.2.2.2.2.2.1 d.2.2.2.2.2.2.2⟩
theorem qac_ok (n : Nat) : cE Try.prog 17 (qac_E n) :=
 cE.ofS aG aF aY (tbl := qac_tbl n) (loops := qac_loops n) (an := qac_an) (old := []) (n := n) (c := qac_c) (fn := Try.f17) (aE.cons (AllE.cons (qaj_ok n) AllE.nil) (aE.cons (AllE.cons (qao_ok n) AllE.nil) (aE.cons (AllE.cons (qam_ok n) AllE.nil) aE.nil))) (by kernel_rfl) (by kernel_rfl) (by kernel_rfl) (by kernel_rfl) (fun d => by kernel_rfl) (LT.cons (by kernel_rfl) (qac_f0 n) LT.nil) (fun a => qac_run n a.1.1 a.1.2.1 a.1.2.2.1 a.1.2.2.2.1 a.1.2.2.2.2.1 a.1.2.2.2.2.2.1 a.1.2.2.2.2.2.2 a.2.1 a.2.2.1 a.2.2.2.1 a.2.2.2.2.1 a.2.2.2.2.2.1 a.2.2.2.2.2.2.1 a.2.2.2.2.2.2.2)
def kW : dJ := {}
def vE : Code := (match Try.f4.body with | some c => c | none => .skip)
def lW : aI := ⟨.normal, [0], (.cons (.sl true false (.int .u8)) .nil), .nil⟩
def jY : List aI := [⟨.ret, [0], (.cons .bool .nil), .nil⟩]
def jZ (n : Nat) : FuncId → List aD := fun f => bif Nat.beq f 11 then [qx_E n] else bif Nat.beq f 15 then [qaf_E n] else bif Nat.beq f 17 then [qac_E n] else bif Nat.beq f 16 then [qai_E n] else bif Nat.beq f 18 then [qal_E n] else bif Nat.beq f 13 then [qaq_E n] else bif Nat.beq f 14 then [qak_E n] else []
def iL (n : Nat) : Nat → Option aH := fun f => none
theorem rF (n : Nat) (b_0 : DA) : bM (aL _) tab (jZ n) (iL n) kW Try.f4 0 lW jY b_0 some = eJ n b_0 := by kernel_rfl
def vO (n : Nat) : aD := ⟨lW, jY, fun d => eJ n d⟩
theorem sN (n : Nat) : cE Try.prog 4 (vO n) :=
 cE.ofS aG aF aY (tbl := jZ n) (loops := iL n) (an := kW) (old := []) (n := n) (c := vE) (fn := Try.f4) (aE.cons (AllE.cons (qx_ok n) AllE.nil) (aE.cons (AllE.cons (qaf_ok n) AllE.nil) (aE.cons (AllE.cons (qac_ok n) AllE.nil) (aE.cons (AllE.cons (qai_ok n) AllE.nil) (aE.cons (AllE.cons (qal_ok n) AllE.nil) (aE.cons (AllE.cons (qaq_ok n) AllE.nil) (aE.cons (AllE.cons (qak_ok n) AllE.nil) aE.nil))))))) (by kernel_rfl) (by kernel_rfl) (by kernel_rfl) (by kernel_rfl) (fun d => by kernel_rfl) LT.nil (fun a => rF n a)
end
end Sx
