import Derived.Test.YtliamnpngkojdaaDoorProg
import Derived.Test.YtliamnpngkojdaaDoorLib32
import Derived.Test.YtliamnpngkojdaaDoorFlRun1
import Derived.KernelRfl
open Go Go.Ab Go.Proofs
set_option linter.unusedVariables false
set_option maxRecDepth 20000
namespace Sx
noncomputable section
def ref08Flow_c : Code := (match Tryd.f17.body with | some c => c | none => .skip)
def qam_an : Ann := { boxed := [(1, 0), (1, 3)] }
def qam_c : Code := (match Tryd.f19.body with | some c => c | none => .skip)
def qam_a : StSh := ⟨.normal, [0, 1], (.cons (.agg (.cons (.sl true true yD) (.cons (.int .i64) (.cons (.int .i64) (.cons (.sl true true yD) (.cons (.sl true true yE) .nil)))))) (.cons (.int .i64) .nil)), .nil⟩
def qam_res : List StSh := [⟨.ret, [0], (.cons (.agg (.cons (.int .i64) (.cons (.int .i64) .nil))) .nil), .nil⟩]
def qam_tbl (n : Nat) : FuncId → List Entry := fun f => []
def qam_loops (n : Nat) : Nat → Option LEntry := fun f => none
theorem qam_run (n : Nat) (f_0 : DA) (f_0_1 : Int) (f_0_2 : Int) (f_0_3 : DA) (f_0_4 : DB) (n_1 : Int) : funDS (real _) tab (qam_tbl n) (qam_loops n) qam_an Tryd.f19 0 qam_a qam_res ((f_0, (f_0_1, (f_0_2, (f_0_3, f_0_4)))), n_1) some = qam n f_0 f_0_1 f_0_2 f_0_3 f_0_4 n_1 := by kernel_rfl
def qam_E (n : Nat) : Entry := ⟨qam_a, qam_res, fun d => qam n d.1.1 d.1.2.1 d.1.2.2.1 d.1.2.2.2.1 d.1.2.2.2.2 d.2⟩
theorem qam_ok (n : Nat) : EOK Tryd.prog 19 (qam_E n) :=
 EOK.ofS zc zb ze (tbl := qam_tbl n) (loops := qam_loops n) (an := qam_an) (old := []) (n := n) (c := qam_c) (fn := Tryd.f19) TblOK.nil (by kernel_rfl) (by kernel_rfl) (by kernel_rfl) (by kernel_rfl) (fun d => by kernel_rfl) LT.nil (fun a => qam_run n a.1.1 a.1.2.1 a.1.2.2.1 a.1.2.2.2.1 a.1.2.2.2.2 a.2)
def law08FlowLocals_an : Ann := {}
def law08FlowLocals_c : Code := (match Tryd.f4.body with | some c => c | none => .skip)
def law08FlowLocals_a : StSh := ⟨.normal, [0, 1], (.cons (.agg (.cons (.sl true true yD) (.cons (.int .i64) (.cons (.int .i64) (.cons (.sl true true yD) (.cons (.sl true true yE) .nil)))))) (.cons (.int .i64) .nil)), .nil⟩
def law08FlowLocals_res : List StSh := [⟨.ret, [0], (.cons .bool .nil), .nil⟩]
def law08FlowLocals_tbl (n : Nat) : FuncId → List Entry := fun f => bif Nat.beq f 13 then [qad_E n] else bif Nat.beq f 18 then [qay_E n] else bif Nat.beq f 19 then [qam_E n] else []
def law08FlowLocals_loops (n : Nat) : Nat → Option LEntry := fun f => none
theorem zcA (n : Nat) (f_0 : DA) (f_0_1 : Int) (f_0_2 : Int) (f_0_3 : DA) (f_0_4 : DB) (n_1 : Int) : funDS (real _) tab (law08FlowLocals_tbl n) (law08FlowLocals_loops n) law08FlowLocals_an Tryd.f4 0 law08FlowLocals_a law08FlowLocals_res ((f_0, (f_0_1, (f_0_2, (f_0_3, f_0_4)))), n_1) some = law08FlowLocals n f_0 f_0_1 f_0_2 f_0_3 f_0_4 n_1 := by kernel_rfl
def law08FlowLocals_E (n : Nat) : Entry := ⟨law08FlowLocals_a, law08FlowLocals_res, fun d => law08FlowLocals n d.1.1 d.1.2.1 d.1.2.2.1 d.1.2.2.2.1 d.1.2.2.2.2 d.2⟩
theorem zcP (n : Nat) : EOK Tryd.prog 4 (law08FlowLocals_E n) :=
 EOK.ofS zc zb ze (tbl := law08FlowLocals_tbl n) (loops := law08FlowLocals_loops n) (an := law08FlowLocals_an) (old := []) (n := n) (c := law08FlowLocals_c) (fn := Tryd.f4) (TblOK.cons (AllE.cons (qad_ok n) AllE.nil) (TblOK.cons (AllE.cons (qay_ok n) AllE.nil) (TblOK.cons (AllE.cons (qam_ok n) AllE.nil) TblOK.nil))) (by kernel_rfl) (by kernel_rfl) (by kernel_rfl) (by kernel_rfl) (fun d => by kernel_rfl) LT.nil (fun a => zcA n a.1.1 a.1.2.1 a.1.2.2.1 a.1.2.2.2.1 a.1.2.2.2.2 a.2)
end
end Sx
