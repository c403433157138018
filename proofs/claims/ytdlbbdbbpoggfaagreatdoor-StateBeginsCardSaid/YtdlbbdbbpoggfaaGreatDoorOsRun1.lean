import Derived.Test.YtdlbbdbbpoggfaaGreatDoorProg
import Derived.Test.YtdlbbdbbpoggfaaGreatDoorLib33
import Derived.Test.YtdlbbdbbpoggfaaGreatDoorOsSh
open Go Go.Ab Go.Proofs
set_option linter.unusedVariables false
set_option maxRecDepth 20000
namespace Sx
noncomputable section
def F6 (f : Func) : Code := (match f.body with | some c => c | none => .skip)
def Ni (b : Nat) (c : Code) : Code := (match dU b (fD c 0) with | some c => c | none => .skip)
abbrev yA : Ty := (.sl true (.cons (.int .i64) (.int .i64)))
abbrev yB : Ty := (.cons (.sl true (.cons (.int .i64) (.int .i64))) (.cons (.int .i64) (.cons (.int .i64) (.cons (.sl true (.cons (.int .i64) (.int .i64))) (.sl true (.cons (.int .i64) (.cons (.int .i64) (.int .i64))))))))
abbrev yC : Ty := (.cons (.sl true (.cons (.int .i64) (.int .i64))) (.cons (.int .i64) (.int .i64)))
abbrev yD : Ty := (.cons (.int .i64) (.int .i64))
abbrev yE : Ty := (.cons (.int .i64) (.cons (.int .i64) (.int .i64)))
abbrev yF : Ty := (.sl false (.int .u8))
abbrev yG : Ty := (.cons (.int .i64) (.cons (.int .i64) (.cons (.sl false (.int .u64)) (.sl false (.int .u64)))))
abbrev yH : Ty := (.cons (.int .i64) (.cons (.int .i64) (.cons (.sl false (.int .u64)) (.sl false (.int .u8)))))
abbrev yI : Ty := (.cons (.int .i64) (.cons (.int .u64) .bool))
abbrev yJ : Ty := (.sl true (.cons .bool (.sl true (.cons (.int .i64) (.int .i64)))))
abbrev yK : Ty := (.cons .bool (.sl true (.cons (.int .i64) (.int .i64))))
def qA : List (String × Nat × Int × Int) := [("chrysalis/flow.number", 1, 1, 0), ("chrysalis/flow.octets", 3, 2, 0), ("chrysalis/flow.words", 2, 3, 0), ("chrysalis/flow.refs", 4, 7, 0), ("chrysalis/flow.use", 0, 8, 0)]
def Qf : DH := [(1, 1, 0), (3, 2, 0), (2, 3, 0), (4, 7, 0), (0, 8, 0)]
instance gTab : cD := ⟨fun g => dU g Qf⟩
abbrev xA : Ty := .int .i64
abbrev xB : Ty := .sl false .str
abbrev xC : Ty := .sl false (.int .u64)
abbrev xD : Ty := .sl false (.int .u8)
abbrev xE : Ty := .sl true (.cons xA xA)
abbrev xF : Ty := .cons xA (.cons (.int .u64) .bool)
abbrev xG : Ty := .sl false xE
abbrev xH : Ty := .sl true (.cons xA (.cons xA xA))
abbrev xI : Ty := .sl false (.sl true (.cons .bool xE))
abbrev xJ : Ty := .sl true (.cons xE (.cons xA xA))
abbrev xK : Ty := .cons xA (.cons xA (.cons xC xC))
abbrev xL : Ty := .cons xA (.cons xA (.cons xC xD))
abbrev xM : Ty := .cons xE (.cons xA (.cons xA (.cons xE xH)))
abbrev xN : Ty := .cons (.sl true xK) (.cons (.sl true xL) (.cons (.sl true xF) (.cons xA (.cons xA (.cons xA (.int .u64))))))
abbrev zi : Value := .int .i64 0
abbrev zl : Value := .slice none 0 0
abbrev zu : Value := .int .u64 0
abbrev zp : Value := .pointer none
abbrev zt : Value := .string (ByteArray.mk (List.toArray []))
def tA : TI := ⟨.int .i64, 1, 8, false, some xA, false, [zi]⟩
def tB : TI := ⟨.bool, 1, 1, false, some .bool, false, [.bool false]⟩
def tC : TI := ⟨.int .u8, 1, 1, false, some (.int .u8), false, [.int .u8 0]⟩
def tD : TI := ⟨.st [(0, 1, 2), (1, 1, 3), (2, 1, 4), (3, 1, 6)], 4, 24, true, some (.cons xA (.cons xA (.cons .bool (.int .u8)))), true, [zi, zi, .bool false, .int .u8 0]⟩
def tE : TI := ⟨.str, 1, 16, false, some .str, false, [zt]⟩
def tF : TI := ⟨.int .u64, 1, 8, false, some (.int .u64), false, [zu]⟩
def tG : TI := ⟨.st [(0, 1, 9), (1, 1, 12)], 2, 24, true, some (.cons .str (.int .u64)), false, [zt, zu]⟩
def tH : TI := ⟨.ptr, 1, 8, false, none, false, [zp]⟩
def tI : TI := ⟨.st [(0, 1, 17)], 1, 8, true, none, false, [zp]⟩
def tJ : TI := ⟨.int .i32, 1, 4, false, some (.int .i32), false, [.int .i32 0]⟩
def tK : TI := ⟨.sl 65, 1, 24, false, some xG, false, [zl]⟩
def tL : TI := ⟨.sl 70, 1, 24, false, some (.sl true xM), false, [zl]⟩
def tM : TI := ⟨.sl 87, 1, 24, false, some xJ, false, [zl]⟩
def tN : TI := ⟨.sl 34, 1, 24, false, some xC, false, [zl]⟩
def tO : TI := ⟨.sl 9, 1, 24, false, some xB, false, [zl]⟩
def tP : TI := ⟨.st [(0, 1, 22), (1, 1, 23), (2, 1, 24), (3, 1, 25), (4, 1, 26)], 5, 120, true, some (.cons xG (.cons (.sl true xM) (.cons xJ (.cons xC xB)))), false, [zl, zl, zl, zl, zl]⟩
def tQ : TI := ⟨.sl 72, 1, 24, false, some (.sl true xK), false, [zl]⟩
def tR : TI := ⟨.sl 54, 1, 24, false, some (.sl true xL), false, [zl]⟩
def tS : TI := ⟨.sl 51, 1, 24, false, some (.sl true xF), false, [zl]⟩
def tT : TI := ⟨.st [(0, 1, 31), (1, 1, 32), (2, 1, 33), (3, 1, 3), (4, 1, 3), (5, 1, 3), (6, 1, 34)], 7, 104, true, some xN, false, [zl, zl, zl, zi, zi, zi, zu]⟩
def tU : TI := ⟨.sl 90, 1, 24, false, some xI, false, [zl]⟩
def tV : TI := ⟨.int .u16, 1, 2, false, some (.int .u16), false, [.int .u16 0]⟩
def tW : TI := ⟨.st [(0, 1, 3), (1, 1, 34), (2, 1, 4)], 3, 24, true, some xF, true, [zi, zu, .bool false]⟩
def tX : TI := ⟨.sl 5, 1, 24, false, some xD, false, [zl]⟩
def tY : TI := ⟨.st [(0, 1, 3), (1, 1, 3), (2, 1, 25), (3, 1, 52)], 4, 64, true, some xL, false, [zi, zi, zl, zl]⟩
def tZ : TI := ⟨.st [(0, 1, 3), (1, 1, 3)], 2, 16, true, some (.cons xA xA), true, [zi, zi]⟩
def Rj : TI := ⟨.sl 64, 1, 24, false, some xE, false, [zl]⟩
def QR : TI := ⟨.st [(0, 1, 3), (1, 1, 3), (2, 1, 3)], 3, 24, true, some (.cons xA (.cons xA xA)), true, [zi, zi, zi]⟩
def Rk : TI := ⟨.sl 67, 1, 24, false, some xH, false, [zl]⟩
def Q5 : TI := ⟨.st [(0, 1, 65), (1, 2, 64), (3, 1, 65), (4, 1, 68)], 5, 88, true, some xM, false, [zl, zi, zi, zl, zl]⟩
def QK : TI := ⟨.st [(0, 1, 3), (1, 1, 3), (2, 1, 25), (3, 1, 25)], 4, 64, true, some xK, false, [zi, zi, zl, zl]⟩
def Rg : TI := ⟨.int .u32, 1, 4, false, some (.int .u32), false, [.int .u32 0]⟩
def QL : TI := ⟨.st [(0, 1, 65), (1, 2, 64)], 3, 40, true, some (.cons xE (.cons xA xA)), false, [zl, zi, zi]⟩
def Rl : TI := ⟨.sl 92, 1, 24, false, some (.sl true (.cons .bool xE)), false, [zl]⟩
def QP : TI := ⟨.st [(0, 1, 4), (1, 1, 65)], 2, 32, true, some (.cons .bool xE), false, [.bool false, zl]⟩
def Q9 : TI := ⟨.sl 3, 1, 24, false, some (.sl false xA), false, [zl]⟩
def Qj : TI := ⟨.st [(0, 5, 28), (5, 1, 32), (6, 1, 32), (7, 1, 25)], 8, 192, true, some (.cons xG (.cons (.sl true xM) (.cons xJ (.cons xC (.cons xB (.cons (.sl true xL) (.cons (.sl true xL) xC))))))), false, [zl, zl, zl, zl, zl, zl, zl, zl]⟩
def Rf : TI := ⟨.sl 52, 1, 24, false, some (.sl false xD), false, [zl]⟩
def QU : TI := ⟨.st [(0, 5, 28), (5, 1, 41), (6, 7, 36)], 13, 248, true, some (.cons xG (.cons (.sl true xM) (.cons xJ (.cons xC (.cons xB (.cons xI xN)))))), false, [zl, zl, zl, zl, zl, zl, zl, zl, zl, zi, zi, zi, zu]⟩
def Ql : TI := ⟨.st [(0, 1, 52)], 1, 24, true, some xD, false, [zl]⟩
def Rb : TI := ⟨.arr 3 3, 3, 24, true, none, false, [zi, zi, zi]⟩
def Q8 : TI := ⟨.st [(0, 1, 156), (1, 1, 4)], 2, 16, true, none, false, [zp, .bool false]⟩
def QQ : TI := ⟨.st [(0, 1, 52), (1, 1, 4)], 2, 32, true, some (.cons xD .bool), false, [zl, .bool false]⟩
def Q6 : TI := ⟨.st [(0, 1, 65), (1, 1, 65)], 2, 48, true, some (.cons xE xE), false, [zl, zl]⟩
def Rh : TI := ⟨.arr 2 3, 2, 16, true, none, false, [zi, zi]⟩
def QX : TI := ⟨.st [(0, 1, 17), (1, 1, 17), (2, 1, 17), (3, 1, 9)], 4, 40, true, none, false, [zp, zp, zp, zt]⟩
def Rd : TI := ⟨.arr 0 16, 0, 0, true, none, false, []⟩
def Q0 : TI := ⟨.st [(0, 0, 242)], 0, 0, true, none, false, []⟩
def Ra : TI := ⟨.other, 1, 8, false, none, false, [zp]⟩
def P6 : List (Nat × TI) := [(2, tA), (3, tA), (4, tB), (5, tC), (6, tC), (7, tD), (8, tD), (9, tE), (10, tE), (11, tE), (12, tF), (13, tG), (14, tG), (15, tH), (16, tH), (17, tH), (18, tI), (19, tI), (21, tJ), (22, tK), (23, tL), (24, tM), (25, tN), (26, tO), (27, tP), (28, tP), (31, tQ), (32, tR), (33, tS), (34, tF), (35, tT), (36, tT), (37, tA), (41, tU), (49, tV), (50, tW), (51, tW), (52, tX), (53, tY), (54, tY), (63, tZ), (64, tZ), (65, Rj), (66, QR), (67, QR), (68, Rk), (69, Q5), (70, Q5), (71, QK), (72, QK), (82, Rg), (86, QL), (87, QL), (90, Rl), (91, QP), (92, QP), (93, Q9), (96, tH), (102, tH), (103, Qj), (104, Qj), (109, tH), (110, Qj), (111, Qj), (125, Rf), (141, tH), (142, QU), (143, QU), (147, tH), (148, Ql), (149, Ql), (150, Rb), (156, tH), (159, tH), (160, Q8), (161, Q8), (193, QQ), (194, QQ), (196, tF), (201, Q6), (202, Q6), (225, tH), (226, Ql), (227, Ql), (237, Rh), (240, QX), (241, QX), (242, Rd), (243, Q0), (244, Q0), (245, tC), (246, tC), (248, tH), (249, tJ), (250, tJ), (253, Ra)]
def tab : TypeId → Option TI := fun t => dU t P6
theorem PF : cF Tryz.prog tab := (show cF Tryz.prog (fun t => dU t P6) from cF.of_list _ (by kernel_rfl))
theorem Jm : nE Tryz.prog = true := by kernel_rfl
theorem Jp : Tryz.prog.follows .mixedOrders = true := by kernel_rfl
theorem zz : QF Tryz.prog tab := ⟨Jm, Jp, PF⟩
abbrev hA : Sh := .int .i64
abbrev hB : Sh := .int .u64
abbrev hC : Sh := u1 .bool
abbrev hD : Sh := .msw 0 0
abbrev hE : Sh := .msw 1 0
abbrev hF : Sh := .msw 2 0
abbrev hG : Sh := .msw 3 0
abbrev hH : Sh := .msw 4 0
abbrev hI : Sh := .sl true false yA
abbrev hJ : Sh := .sl true true yB
abbrev hK : Sh := .sl true true yC
abbrev hL : Sh := .sl true false .str
abbrev hM : Sh := .sl true true yD
abbrev hN : Sh := .sl true true yE
abbrev hO : Sh := .sl true false yF
abbrev hP : Sh := .sl true true yG
abbrev hQ : Sh := .sl true true yH
abbrev hR : Sh := .sl true true yI
abbrev hS : Sh := .sl false true yD
abbrev hT : Sh := .sl false false yJ
abbrev hU : Sh := .sl true false yJ
abbrev hV : Sh := .sl true true yK
abbrev hW : Sh := .ptr 0 0 0 0
abbrev hX : Sh := u1 hA
abbrev hY : Sh := u1 (.tup .nil)
abbrev hZ : Sh := .ptr 1 0 0 0
abbrev A5 : Sh := .sl true false (.int .u64)
abbrev Qu : Sh := .sl false false (.int .u8)
abbrev LC : Sh := u1 hD
abbrev LX : Sh := .sl true false (.int .u8)
abbrev NT : Sh := .sl false false (.int .i64)
abbrev PU : Sh := .bts 0 false false false yJ
abbrev Qp : Sh := .bts 0 false false true yK
abbrev Qq : Sh := .bts 0 false false true yD
abbrev Q4 : Sh := .sl true false (.int .i64)
abbrev A7 : Sh := u1 hW
abbrev wV : Sh := .bts 0 false false false (.int .u8)
abbrev Ky : Sh := u1 Qu
abbrev QV : Sh := u1 (.bts 0 false false true yG)
abbrev Q3 : Sh := u1 (.bts 0 false true true yG)
abbrev QT : Sh := u1 (.bts 0 false false true yH)
abbrev QM : Sh := u1 (.bts 0 false true true yH)
abbrev PM : Sh := u1 Qq
abbrev PT : Sh := u2 hT .bool
abbrev Je : Sh := u1 wV
abbrev Mu : Sh := .agg (u2 hA hA)
abbrev PZ : Sh := u2 Qu .bool
abbrev O0 : Sh := u2 hW hA
abbrev qL : Sh := u1 (.bcells 0 false 1 hX)
abbrev Pu : Sh := u2 hM hM
abbrev PI : Sh := .bcells 0 false 1 (u2 hA hA)
abbrev MC : Sh := u1 Mu
abbrev O9 : Sh := .agg (u3 hA hA hA)
abbrev PJ : Sh := u3 hW hA hA
abbrev QD : Sh := u4 hW hJ hA hA
abbrev Gm : Sh := u2 (.bcells 0 false 1 (u1 hE)) wV
abbrev Qw : Sh := u1 (.tup (u2 (.agg Pu) .bool))
abbrev Qn : Sh := u4 hU hW hZ hA
abbrev QS : Sh := u2 hN (.fn 123 .nil (u2 hW hZ))
abbrev PN : Sh := .agg (u4 hA hA A5 LX)
abbrev PO : Sh := .agg (u4 hA hA A5 A5)
abbrev OB : Sh := u2 (.bcells 0 false 1 (u1 hV)) (.bcells 0 false 1 (u1 hM))
abbrev QN : Sh := u2 Q4 (.fn 134 .nil (u2 hW hZ))
abbrev Pj : Sh := .agg (u5 hM hA hA hM hN)
abbrev PS : Sh := .bcells 0 false 1 (u4 hA hA A5 A5)
abbrev Qz : Sh := .bcells 0 false 1 (u4 hA hA A5 LX)
abbrev QY : Sh := .agg (u7 (.sl false true yG) .nilS .nilS hA hA hA hB)
abbrev PK : Sh := .bcells 0 false 1 (u5 hM hA hA hM hN)
abbrev J0 : Sh := .agg (u5 hI hJ hK A5 hL)
abbrev KX : Sh := u1 J0
abbrev E9 : Sh := .bcells 0 false 1 (u5 hI hJ hK A5 hL)
abbrev MX : Sh := .agg (u7 hP hQ hR hA hA hA hB)
abbrev vS : Sh := u1 E9
abbrev NS : Sh := .bcells 0 false 1 (u7 hP hQ hR hA hA hA hB)
abbrev Pf : Sh := u1 NS
abbrev QZ : Sh := u2 PK (.bcells 0 false 1 Pu)
abbrev QC : Sh := u2 PK (.bcells 0 false 1 (u3 hA hA hA))
abbrev NV : Sh := u3 E9 PU Qp
abbrev Jc : Sh := u2 E9 PK
abbrev QW : Sh := u2 E9 (.bcells 0 false 1 (u7 .nilS .nilS hR hA hA hA hB))
abbrev Qm : Sh := .bcells 0 false 1 (.cons hI (.cons hJ (.cons hK (.cons A5 (u9 hL hU hP hQ hR hA hA hA hB)))))
abbrev E7 : Sh := u1 Qm
abbrev Pd : Sh := u2 E9 NS
abbrev Qh : Sh := u3 J0 hU MX
abbrev QE : Sh := u3 J0 Pj O9
abbrev Q7 : Sh := u6 E9 wV wV wV wV wV
abbrev Qg : Sh := u4 E9 wV wV PK
abbrev N3 : Sh := u2 (.bcells 0 false 1 (u1 hZ)) Qm
def qbw_E (n : Nat) : aG := ⟨(SN [0] KX .nil), [SY [0] hC .nil], fun d => qbw n d.1 d.2.1 d.2.2.1 d.2.2.2.1 d.2.2.2.2⟩
def qbw_ls (n : Nat) : List (Nat × aK) := [(0, ⟨[SN [1, 3, 4] PJ vS], [SX 0 [1, 3] O0 vS], qbw_W0 n⟩), (2, ⟨[SN [1, 3, 5] PJ vS], [SX 2 [1, 3] O0 vS], qbw_W2 n⟩), (4, ⟨[SN [1, 3, 6] PJ vS], [SX 4 [1, 3] O0 vS], qbw_W4 n⟩), (6, ⟨[SN [1, 3, 7] PJ vS], [SX 6 [3] hX vS], qbw_W6 n⟩)]
theorem qbw_ok (n : Nat) : aM Tryz.prog 12 (qbw_E n) :=
 aM.bS n zz Tryz.f12 { live := [(0, [1, 3, 4]), (2, [1, 3, 5]), (4, [1, 3, 6]), (6, [1, 3, 7])] } (qbw_ls n) .e (.k (fun _ => rfl) (fun _ => by kernel_rfl) (.k (fun _ => rfl) (fun _ => by kernel_rfl) (.k (fun _ => rfl) (fun _ => by kernel_rfl) (.k (fun _ => rfl) (fun _ => by kernel_rfl) .e)))) (by kernel_rfl) (by kernel_rfl) fun _ => by kernel_rfl
def qed_E (n : Nat) : aG := ⟨(SN [0, 1] (u2 Mu hA) .nil), [SY [0] hC .nil], fun d => qed n d.1.1 d.1.2 d.2⟩
theorem qed_ok (n : Nat) : aM Tryz.prog 186 (qed_E n) :=
 aM.bS n zz Tryz.f186 {} [] .e .e (by kernel_rfl) (by kernel_rfl) fun _ => by kernel_rfl
def qbc_E (n : Nat) : aG := ⟨(SN [0, 1] (u2 Mu hW) qL), [SY [0] hC qL], fun d => qbc n d.1.1 d.1.2 d.2⟩
theorem qbc_ok (n : Nat) : aM Tryz.prog 198 (qbc_E n) :=
 aM.bS n zz Tryz.f198 {} [] (.k (qed_ok n) .e) .e (by kernel_rfl) (by kernel_rfl) fun _ => by kernel_rfl
def qao_E (n : Nat) : aG := ⟨(SN [0, 1] (u2 hM (.fn 198 .nil A7)) qL), [SY [0] hX qL], fun d => qao n d.1 d.2⟩
def qao_ls (n : Nat) : List (Nat × aK) := [(0, ⟨[SN [0, 1, 7, 8] (u4 hM (.fn 198 .nil A7) hA hA) qL], [SY [4] hX qL, SX 0 [] .nil qL], qao_W0 n⟩)]
theorem qao_ok (n : Nat) : aM Tryz.prog 165 (qao_E n) :=
 aM.bS n zz Tryz.f165 { live := [(0, [0, 1, 7, 8])] } (qao_ls n) (.k (qbc_ok n) .e) (.k (fun _ => rfl) (fun _ => by kernel_rfl) .e) (by kernel_rfl) (by kernel_rfl) fun _ => by kernel_rfl
def qr_E (n : Nat) : aG := ⟨(SN [0, 1] (u2 hM (.fn 198 .nil A7)) qL), [SY [0] hC qL], fun d => qr n d.1 d.2⟩
theorem qr_ok (n : Nat) : aM Tryz.prog 126 (qr_E n) :=
 aM.bS n zz Tryz.f126 {} [] (.k (qao_ok n) .e) .e (by kernel_rfl) (by kernel_rfl) fun _ => by kernel_rfl
def qcj_E (n : Nat) : aG := ⟨(SN [0, 1, 2] (u3 hM hA hA) .nil), [SY [0] hC .nil], fun d => qcj n d.1 d.2.1 d.2.2⟩
theorem qcj_ok (n : Nat) : aM Tryz.prog 181 (qcj_E n) :=
 aM.bS n zz Tryz.f181 {} [] (.k (qr_ok n) .e) .e (by kernel_rfl) (by kernel_rfl) fun _ => by kernel_rfl
def qbo_E (n : Nat) : aG := ⟨(SN [0, 1] (u2 hM hW) qL), [SY [0] hC qL], fun d => qbo n d.1 d.2⟩
theorem qbo_ok (n : Nat) : aM Tryz.prog 180 (qbo_E n) :=
 aM.bS n zz Tryz.f180 {} [] (.k (qcj_ok n) .e) .e (by kernel_rfl) (by kernel_rfl) fun _ => by kernel_rfl
def qae_E (n : Nat) : aG := ⟨(SN [0, 1] (u2 hI (.fn 180 .nil A7)) qL), [SY [0] hX qL], fun d => qae n d.1 d.2⟩
def qae_ls (n : Nat) : List (Nat × aK) := [(0, ⟨[SN [0, 1, 7, 8] (u4 hI (.fn 180 .nil A7) hA hA) qL], [SY [4] hX qL, SX 0 [] .nil qL], qae_W0 n⟩)]
theorem qae_ok (n : Nat) : aM Tryz.prog 197 (qae_E n) :=
 aM.bS n zz Tryz.f197 { live := [(0, [0, 1, 7, 8])] } (qae_ls n) (.k (qbo_ok n) .e) (.k (fun _ => rfl) (fun _ => by kernel_rfl) .e) (by kernel_rfl) (by kernel_rfl) fun _ => by kernel_rfl
def qd_E (n : Nat) : aG := ⟨(SN [0, 1] (u2 hI (.fn 180 .nil A7)) qL), [SY [0] hC qL], fun d => qd n d.1 d.2⟩
theorem qd_ok (n : Nat) : aM Tryz.prog 179 (qd_E n) :=
 aM.bS n zz Tryz.f179 {} [] (.k (qae_ok n) .e) .e (by kernel_rfl) (by kernel_rfl) fun _ => by kernel_rfl
def qdy_E (n : Nat) : aG := ⟨(SN [0] hX .nil), [SY [0] hX .nil], fun d => qdy n d⟩
theorem qdy_ok (n : Nat) : aM Tryz.prog 202 (qdy_E n) :=
 aM.bS n zz Tryz.f202 {} [] .e .e (by kernel_rfl) (by kernel_rfl) fun _ => by kernel_rfl
def qep_E (n : Nat) : aG := ⟨(SN [0, 1] (u2 hA .bool) .nil), [SY [0] hC .nil], fun d => qep n d.1 d.2⟩
theorem qep_ok (n : Nat) : aM Tryz.prog 203 (qep_E n) :=
 aM.bS n zz Tryz.f203 {} [] .e .e (by kernel_rfl) (by kernel_rfl) fun _ => by kernel_rfl
def qeq_E (n : Nat) : aG := ⟨(SN [0] (u1 hB) .nil), [SY [0] LC Je], fun d => qeq n d⟩
def qeq_ls (n : Nat) : List (Nat × aK) := [(0, ⟨[SN [0, 3] (u2 hB hD) Je], [SX 0 [0, 3] (u2 hB hD) Je], qeq_W0 n⟩)]
theorem qeq_ok (n : Nat) : aM Tryz.prog 145 (qeq_E n) :=
 aM.b n zz Tryz.f145 { live := [(0, [0, 3])], boxed := [(0, 0), (1, 0), (4, 5), (5, 4)] } (qeq_ls n) .e (.k (fun _ => rfl) (fun _ => by kernel_rfl) .e) (by kernel_rfl) (by kernel_rfl) fun _ => by kernel_rfl
def qek_E (n : Nat) : aG := ⟨(SN [0] (u1 O9) .nil), [SY [0] Ky .nil], fun d => qek n d.1 d.2.1 d.2.2⟩
def qek_ls (n : Nat) : List (Nat × aK) := [(0, ⟨[SN [4, 39, 40, 41] (u4 hD (.ms 1 0) hA hA) (u2 wV PI)], [SX 0 [4] LC (u2 wV PI)], qek_W0 n⟩)]
theorem qek_ok (n : Nat) : aM Tryz.prog 192 (qek_E n) :=
 aM.bS n zz Tryz.f192 { live := [(0, [4, 39, 40, 41])], boxed := [(4, 3), (9, 4)] } (qek_ls n) (.k (qdy_ok n) (.k (qep_ok n) (.k (qeq_ok n) .e))) (.k (fun _ => rfl) (fun _ => by kernel_rfl) .e) (by kernel_rfl) (by kernel_rfl) fun _ => by kernel_rfl
def qaj_E (n : Nat) : aG := ⟨(SN [0] (u1 O9) .nil), [SY [0] hC .nil], fun d => qaj n d.1 d.2.1 d.2.2⟩
theorem qaj_ok (n : Nat) : aM Tryz.prog 200 (qaj_E n) :=
 aM.bS n zz Tryz.f200 {} [] (.k (qek_ok n) .e) .e (by kernel_rfl) (by kernel_rfl) fun _ => by kernel_rfl
def qal_E (n : Nat) : aG := ⟨(SN [0, 1] (u2 hN (.fn 200 .nil .nil)) .nil), [SY [0] hX .nil], fun d => qal n d⟩
def qal_ls (n : Nat) : List (Nat × aK) := [(0, ⟨[SN [0, 1, 7, 8] (u4 hN (.fn 200 .nil .nil) hA hA) .nil], [SY [4] hX .nil, SX 0 [] .nil .nil], qal_W0 n⟩)]
theorem qal_ok (n : Nat) : aM Tryz.prog 164 (qal_E n) :=
 aM.bS n zz Tryz.f164 { live := [(0, [0, 1, 7, 8])] } (qal_ls n) (.k (qaj_ok n) .e) (.k (fun _ => rfl) (fun _ => by kernel_rfl) .e) (by kernel_rfl) (by kernel_rfl) fun _ => by kernel_rfl
def qk_E (n : Nat) : aG := ⟨(SN [0, 1] (u2 hN (.fn 200 .nil .nil)) .nil), [SY [0] hC .nil], fun d => qk n d⟩
theorem qk_ok (n : Nat) : aM Tryz.prog 125 (qk_E n) :=
 aM.bS n zz Tryz.f125 {} [] (.k (qal_ok n) .e) .e (by kernel_rfl) (by kernel_rfl) fun _ => by kernel_rfl
def qat_E (n : Nat) : aG := ⟨(SN [0, 1] (u2 Pj hA) .nil), [SY [0] hC .nil], fun d => qat n d.1.1 d.1.2.1 d.1.2.2.1 d.1.2.2.2.1 d.1.2.2.2.2 d.2⟩
theorem qat_ok (n : Nat) : aM Tryz.prog 184 (qat_E n) :=
 aM.bS n zz Tryz.f184 {} [] (.k (qcj_ok n) (.k (qed_ok n) (.k (qk_ok n) .e))) .e (by kernel_rfl) (by kernel_rfl) fun _ => by kernel_rfl
def qbd_E (n : Nat) : aG := ⟨(SN [0, 1] (u2 Pj hW) qL), [SY [0] hC qL], fun d => qbd n d.1.1 d.1.2.1 d.1.2.2.1 d.1.2.2.2.1 d.1.2.2.2.2 d.2⟩
theorem qbd_ok (n : Nat) : aM Tryz.prog 183 (qbd_E n) :=
 aM.bS n zz Tryz.f183 {} [] (.k (qat_ok n) .e) .e (by kernel_rfl) (by kernel_rfl) fun _ => by kernel_rfl
def qaq_E (n : Nat) : aG := ⟨(SN [0, 1] (u2 hJ (.fn 183 .nil A7)) qL), [SY [0] hX qL], fun d => qaq n d.1 d.2⟩
def qaq_ls (n : Nat) : List (Nat × aK) := [(0, ⟨[SN [0, 1, 7, 8] (u4 hJ (.fn 183 .nil A7) hA hA) qL], [SY [4] hX qL, SX 0 [] .nil qL], qaq_W0 n⟩)]
theorem qaq_ok (n : Nat) : aM Tryz.prog 199 (qaq_E n) :=
 aM.bS n zz Tryz.f199 { live := [(0, [0, 1, 7, 8])] } (qaq_ls n) (.k (qbd_ok n) .e) (.k (fun _ => rfl) (fun _ => by kernel_rfl) .e) (by kernel_rfl) (by kernel_rfl) fun _ => by kernel_rfl
def qs_E (n : Nat) : aG := ⟨(SN [0, 1] (u2 hJ (.fn 183 .nil A7)) qL), [SY [0] hC qL], fun d => qs n d.1 d.2⟩
theorem qs_ok (n : Nat) : aM Tryz.prog 182 (qs_E n) :=
 aM.bS n zz Tryz.f182 {} [] (.k (qaq_ok n) .e) .e (by kernel_rfl) (by kernel_rfl) fun _ => by kernel_rfl
def qbm_E (n : Nat) : aG := ⟨(SN [0, 1] (u2 (.agg (u3 hM hA hA)) hW) qL), [SY [0] hC qL], fun d => qbm n d.1.1 d.1.2.1 d.1.2.2 d.2⟩
theorem qbm_ok (n : Nat) : aM Tryz.prog 185 (qbm_E n) :=
 aM.bS n zz Tryz.f185 {} [] (.k (qcj_ok n) (.k (qed_ok n) .e)) .e (by kernel_rfl) (by kernel_rfl) fun _ => by kernel_rfl
def qad_E (n : Nat) : aG := ⟨(SN [0, 1] (u2 hK (.fn 185 .nil A7)) qL), [SY [0] hX qL], fun d => qad n d.1 d.2⟩
def qad_ls (n : Nat) : List (Nat × aK) := [(0, ⟨[SN [0, 1, 7, 8] (u4 hK (.fn 185 .nil A7) hA hA) qL], [SY [4] hX qL, SX 0 [] .nil qL], qad_W0 n⟩)]
theorem qad_ok (n : Nat) : aM Tryz.prog 166 (qad_E n) :=
 aM.bS n zz Tryz.f166 { live := [(0, [0, 1, 7, 8])] } (qad_ls n) (.k (qbm_ok n) .e) (.k (fun _ => rfl) (fun _ => by kernel_rfl) .e) (by kernel_rfl) (by kernel_rfl) fun _ => by kernel_rfl
def qf_E (n : Nat) : aG := ⟨(SN [0, 1] (u2 hK (.fn 185 .nil A7)) qL), [SY [0] hC qL], fun d => qf n d.1 d.2⟩
theorem qf_ok (n : Nat) : aM Tryz.prog 131 (qf_E n) :=
 aM.bS n zz Tryz.f131 {} [] (.k (qad_ok n) .e) .e (by kernel_rfl) (by kernel_rfl) fun _ => by kernel_rfl
def qbf_E (n : Nat) : aG := ⟨(SN [0] (u1 .str) .nil), [SY [0] hC .nil], fun d => qbf n d⟩
theorem qbf_ok (n : Nat) : aM Tryz.prog 188 (qbf_E n) :=
 aM.bS n zz Tryz.f188 {} [] .e .e (by kernel_rfl) (by kernel_rfl) fun _ => by kernel_rfl
def qac_E (n : Nat) : aG := ⟨(SN [0, 1] (u2 hL (.fn 188 .nil .nil)) .nil), [SY [0] hX .nil], fun d => qac n d⟩
def qac_ls (n : Nat) : List (Nat × aK) := [(0, ⟨[SN [0, 1, 7, 8] (u4 hL (.fn 188 .nil .nil) hA hA) .nil], [SY [4] hX .nil, SX 0 [] .nil .nil], qac_W0 n⟩)]
theorem qac_ok (n : Nat) : aM Tryz.prog 201 (qac_E n) :=
 aM.bS n zz Tryz.f201 { live := [(0, [0, 1, 7, 8])] } (qac_ls n) (.k (qbf_ok n) .e) (.k (fun _ => rfl) (fun _ => by kernel_rfl) .e) (by kernel_rfl) (by kernel_rfl) fun _ => by kernel_rfl
def qi_E (n : Nat) : aG := ⟨(SN [0, 1] (u2 hL (.fn 188 .nil .nil)) .nil), [SY [0] hC .nil], fun d => qi n d⟩
theorem qi_ok (n : Nat) : aM Tryz.prog 187 (qi_E n) :=
 aM.bS n zz Tryz.f187 {} [] (.k (qac_ok n) .e) .e (by kernel_rfl) (by kernel_rfl) fun _ => by kernel_rfl
def qcn_E (n : Nat) : aG := ⟨(SN [0] KX .nil), [SY [0] hC .nil], fun d => qcn n d.1 d.2.1 d.2.2.1 d.2.2.2.1 d.2.2.2.2⟩
theorem qcn_ok (n : Nat) : aM Tryz.prog 154 (qcn_E n) :=
 aM.bS n zz Tryz.f154 {} [] (.k (qd_ok n) (.k (qs_ok n) (.k (qf_ok n) (.k (qi_ok n) .e)))) .e (by kernel_rfl) (by kernel_rfl) fun _ => by kernel_rfl
def ql_E (n : Nat) : aG := ⟨(SN [0, 1] O0 (u1 (.bcells 0 false 1 (u1 .nilS)))), [SY [0] hY Gm], fun d => ql n d⟩
theorem ql_ok (n : Nat) : aM Tryz.prog 189 (ql_E n) :=
 aM.bS n zz Tryz.f189 { boxed := [(0, 8)] } [] (.k (qeq_ok n) .e) .e (by kernel_rfl) (by kernel_rfl) fun _ => by kernel_rfl
def qc_E (n : Nat) : aG := ⟨(SN [0, 1] O0 Gm), [SY [0] hY Gm], fun d => qc n d.1 d.2⟩
theorem qc_ok (n : Nat) : aM Tryz.prog 189 (qc_E n) :=
 aM.bS n zz Tryz.f189 { boxed := [(0, 8)] } [] (.k (qeq_ok n) .e) .e (by kernel_rfl) (by kernel_rfl) fun _ => by kernel_rfl
def qen_E (n : Nat) : aG := ⟨(SN [0] MC .nil), [SY [0] Ky .nil], fun d => qen n d.1 d.2⟩
theorem qen_ok (n : Nat) : aM Tryz.prog 191 (qen_E n) :=
 aM.bS n zz Tryz.f191 { raw := [(1, 4)] } [] (.k (qeq_ok n) .e) .e (by kernel_rfl) (by kernel_rfl) fun _ => by kernel_rfl
def qm_E (n : Nat) : aG := ⟨(SN [0, 1] (u2 hW hM) Gm), [SY [0] hY Gm], fun d => qm n d.1 d.2⟩
def qm_ls (n : Nat) : List (Nat × aK) := [(0, ⟨[SN [0, 10, 11, 12] (u4 hW hM hA hA) Gm], [SX 0 [] .nil Gm], qm_W0 n⟩)]
theorem qm_ok (n : Nat) : aM Tryz.prog 190 (qm_E n) :=
 aM.bS n zz Tryz.f190 { live := [(0, [0, 10, 11, 12])], boxed := [(4, 7)] } (qm_ls n) (.k (qc_ok n) (.k (qen_ok n) .e)) (.k (fun _ => rfl) (fun _ => by kernel_rfl) .e) (by kernel_rfl) (by kernel_rfl) fun _ => by kernel_rfl
def qan_E (n : Nat) : aG := ⟨(SN [0] KX .nil), [SY [0] Ky .nil], fun d => qan n d.1 d.2.1 d.2.2.1 d.2.2.2.1 d.2.2.2.2⟩
def qan_ls (n : Nat) : List (Nat × aK) := [(0, ⟨[SN [3, 14, 15, 16] (u4 hW hI hA hA) Gm], [SX 0 [3] A7 Gm], qan_W0 n⟩)]
theorem qan_ok (n : Nat) : aM Tryz.prog 156 (qan_E n) :=
 aM.bS n zz Tryz.f156 { live := [(0, [3, 14, 15, 16])] } (qan_ls n) (.k (ql_ok n) (.k (qm_ok n) .e)) (.k (fun _ => rfl) (fun _ => by kernel_rfl) .e) (by kernel_rfl) (by kernel_rfl) fun _ => by kernel_rfl
def qx_E (n : Nat) : aG := ⟨(SN [0] KX .nil), [SY [0] Ky .nil], fun d => qx n d.1 d.2.1 d.2.2.1 d.2.2.2.1 d.2.2.2.2⟩
def qx_ls (n : Nat) : List (Nat × aK) := [(2, ⟨[SN [3, 16, 17, 18, 47, 48, 49] (u7 hW hJ hA hA hN hA hA) Gm], [SX 2 [3, 16, 17, 18] QD Gm], qx_W2 n⟩), (0, ⟨[SN [3, 16, 17, 18] QD Gm], [SX 0 [3] A7 Gm], qx_W0 n⟩)]
theorem qx_ok (n : Nat) : aM Tryz.prog 157 (qx_E n) :=
 aM.bS n zz Tryz.f157 { live := [(0, [3, 16, 17, 18]), (2, [3, 16, 17, 18, 47, 48, 49])], boxed := [(7, 8), (13, 7)] } (qx_ls n) (.k (ql_ok n) (.k (qc_ok n) (.k (qm_ok n) (.k (qen_ok n) (.k (qek_ok n) .e))))) (.k (fun _ => rfl) (fun _ => by kernel_rfl) (.k (fun _ => rfl) (fun _ => by kernel_rfl) .e)) (by kernel_rfl) (by kernel_rfl) fun _ => by kernel_rfl
def qar_E (n : Nat) : aG := ⟨(SN [0] KX .nil), [SY [0] Ky .nil], fun d => qar n d.1 d.2.1 d.2.2.1 d.2.2.2.1 d.2.2.2.2⟩
def qar_ls (n : Nat) : List (Nat × aK) := [(0, ⟨[SN [3, 14, 15, 16] (u4 hW hK hA hA) Gm], [SX 0 [3] A7 Gm], qar_W0 n⟩)]
theorem qar_ok (n : Nat) : aM Tryz.prog 158 (qar_E n) :=
 aM.bS n zz Tryz.f158 { live := [(0, [3, 14, 15, 16])], boxed := [(7, 8)] } (qar_ls n) (.k (ql_ok n) (.k (qm_ok n) (.k (qen_ok n) .e))) (.k (fun _ => rfl) (fun _ => by kernel_rfl) .e) (by kernel_rfl) (by kernel_rfl) fun _ => by kernel_rfl
def qdx_E (n : Nat) : aG := ⟨(SN [0, 1] (u2 hB hA) .nil), [SY [0] Ky .nil], fun d => qdx n d.1 d.2⟩
def qdx_ls (n : Nat) : List (Nat × aK) := [(0, ⟨[SN [0, 5, 9, 10] (u4 hB hD hA hA) Je], [SX 0 [5] LC Je], qdx_W0 n⟩)]
theorem qdx_ok (n : Nat) : aM Tryz.prog 97 (qdx_E n) :=
 aM.bS n zz Tryz.f97 { live := [(0, [0, 5, 9, 10])], boxed := [(1, 0), (5, 7)] } (qdx_ls n) .e (.k (fun _ => rfl) (fun _ => by kernel_rfl) .e) (by kernel_rfl) (by kernel_rfl) fun _ => by kernel_rfl
def qau_E (n : Nat) : aG := ⟨(SN [0] KX .nil), [SY [0] Ky .nil], fun d => qau n d.1 d.2.1 d.2.2.1 d.2.2.2.1 d.2.2.2.2⟩
def qau_ls (n : Nat) : List (Nat × aK) := [(0, ⟨[SN [3, 14, 15, 16] (u4 hW A5 hA hA) Gm], [SX 0 [3] A7 Gm], qau_W0 n⟩)]
theorem qau_ok (n : Nat) : aM Tryz.prog 159 (qau_E n) :=
 aM.bS n zz Tryz.f159 { live := [(0, [3, 14, 15, 16])], boxed := [(6, 7)] } (qau_ls n) (.k (ql_ok n) (.k (qdx_ok n) .e)) (.k (fun _ => rfl) (fun _ => by kernel_rfl) .e) (by kernel_rfl) (by kernel_rfl) fun _ => by kernel_rfl
def qbh_E (n : Nat) : aG := ⟨(SN [0] KX .nil), [SY [0] Ky .nil], fun d => qbh n d.1 d.2.1 d.2.2.1 d.2.2.2.1 d.2.2.2.2⟩
def qbh_ls (n : Nat) : List (Nat × aK) := [(0, ⟨[SN [3, 14, 15, 16] (u4 hW hL hA hA) Gm], [SX 0 [3] A7 Gm], qbh_W0 n⟩)]
theorem qbh_ok (n : Nat) : aM Tryz.prog 160 (qbh_E n) :=
 aM.bS n zz Tryz.f160 { live := [(0, [3, 14, 15, 16])], boxed := [(7, 6)] } (qbh_ls n) (.k (ql_ok n) (.k (qc_ok n) .e)) (.k (fun _ => rfl) (fun _ => by kernel_rfl) .e) (by kernel_rfl) (by kernel_rfl) fun _ => by kernel_rfl
def qdv_E (n : Nat) : aG := ⟨(SN [0] (u1 hO) .nil), [SY [0] Ky .nil], fun d => qdv n d⟩
def qdv_ls (n : Nat) : List (Nat × aK) := [(0, ⟨[SN [3, 10, 11, 12] (u4 hD hO hA hA) Je], [SX 0 [3] LC Je], qdv_W0 n⟩)]
theorem qdv_ok (n : Nat) : aM Tryz.prog 155 (qdv_E n) :=
 aM.bS n zz Tryz.f155 { live := [(0, [3, 10, 11, 12])], boxed := [(5, 5), (6, 2)], raw := [(1, 3)] } (qdv_ls n) (.k (qeq_ok n) .e) (.k (fun _ => rfl) (fun _ => by kernel_rfl) .e) (by kernel_rfl) (by kernel_rfl) fun _ => by kernel_rfl
def qax_E (n : Nat) : aG := ⟨(SN [0] KX .nil), [SY [0] (u1 (.tup (u2 Qu hA))) .nil], fun d => qax n d.1 d.2.1 d.2.2.1 d.2.2.2.1 d.2.2.2.2⟩
theorem qax_ok (n : Nat) : aM Tryz.prog 115 (qax_E n) :=
 aM.bS n zz Tryz.f115 {} [] (.k (qcn_ok n) (.k (qan_ok n) (.k (qx_ok n) (.k (qar_ok n) (.k (qau_ok n) (.k (qbh_ok n) (.k (qdv_ok n) .e))))))) .e (by kernel_rfl) (by kernel_rfl) fun _ => by kernel_rfl
def qdp_E (n : Nat) : aG := ⟨(SN [0, 1] (u2 hA hA) .nil), [SY [0] hC .nil], fun d => qdp n d.1 d.2⟩
theorem qdp_ok (n : Nat) : aM Tryz.prog 163 (qdp_E n) :=
 aM.bS n zz Tryz.f163 {} [] .e .e (by kernel_rfl) (by kernel_rfl) fun _ => by kernel_rfl
def qdq_E (n : Nat) : aG := ⟨(SN [0, 1, 2] QE .nil), [SY [0] hC .nil], fun d => qdq n d.1.1 d.1.2.1 d.1.2.2.1 d.1.2.2.2.1 d.1.2.2.2.2 d.2.1.1 d.2.1.2.1 d.2.1.2.2.1 d.2.1.2.2.2.1 d.2.1.2.2.2.2 d.2.2.1 d.2.2.2.1 d.2.2.2.2⟩
theorem qdq_ok (n : Nat) : aM Tryz.prog 124 (qdq_E n) :=
 aM.bS n zz Tryz.f124 {} [] (.k (qdp_ok n) .e) .e (by kernel_rfl) (by kernel_rfl) fun _ => by kernel_rfl
def qbu_E (n : Nat) : aG := ⟨(SN [0, 1, 2] (u3 O9 hW hZ) Jc), [SY [0] hC Jc], fun d => qbu n d.1.1 d.1.2.1 d.1.2.2 d.2.1.1 d.2.1.2.1 d.2.1.2.2.1 d.2.1.2.2.2.1 d.2.1.2.2.2.2 d.2.2.1 d.2.2.2.1 d.2.2.2.2.1 d.2.2.2.2.2.1 d.2.2.2.2.2.2⟩
theorem qbu_ok (n : Nat) : aM Tryz.prog 123 (qbu_E n) :=
 aM.bS n zz Tryz.f123 {} [] (.k (qdq_ok n) .e) .e (by kernel_rfl) (by kernel_rfl) fun _ => by kernel_rfl
def qu_E (n : Nat) : aG := ⟨(SN [0, 1] QS Jc), [SY [0] hX Jc], fun d => qu n d.1 d.2.1.1 d.2.1.2.1 d.2.1.2.2.1 d.2.1.2.2.2.1 d.2.1.2.2.2.2 d.2.2.1 d.2.2.2.1 d.2.2.2.2.1 d.2.2.2.2.2.1 d.2.2.2.2.2.2⟩
def qu_ls (n : Nat) : List (Nat × aK) := [(0, ⟨[SN [0, 1, 7, 8] (u4 hN (.fn 123 .nil (u2 hW hZ)) hA hA) Jc], [SY [4] hX Jc, SX 0 [] .nil Jc], qu_W0 n⟩)]
theorem qu_ok (n : Nat) : aM Tryz.prog 164 (qu_E n) :=
 aM.bS n zz Tryz.f164 { live := [(0, [0, 1, 7, 8])] } (qu_ls n) (.k (qbu_ok n) .e) (.k (fun _ => rfl) (fun _ => by kernel_rfl) .e) (by kernel_rfl) (by kernel_rfl) fun _ => by kernel_rfl
def qb_E (n : Nat) : aG := ⟨(SN [0, 1] QS Jc), [SY [0] hC Jc], fun d => qb n d.1 d.2.1.1 d.2.1.2.1 d.2.1.2.2.1 d.2.1.2.2.2.1 d.2.1.2.2.2.2 d.2.2.1 d.2.2.2.1 d.2.2.2.2.1 d.2.2.2.2.2.1 d.2.2.2.2.2.2⟩
theorem qb_ok (n : Nat) : aM Tryz.prog 125 (qb_E n) :=
 aM.bS n zz Tryz.f125 {} [] (.k (qu_ok n) .e) .e (by kernel_rfl) (by kernel_rfl) fun _ => by kernel_rfl
def qco_E (n : Nat) : aG := ⟨(SN [0] MC .nil), [SY [0] hC .nil], fun d => qco n d.1 d.2⟩
theorem qco_ok (n : Nat) : aM Tryz.prog 127 (qco_E n) :=
 aM.bS n zz Tryz.f127 {} [] .e .e (by kernel_rfl) (by kernel_rfl) fun _ => by kernel_rfl
def qy_E (n : Nat) : aG := ⟨(SN [0, 1] (u2 hM (.fn 127 .nil .nil)) .nil), [SY [0] hX .nil], fun d => qy n d⟩
def qy_ls (n : Nat) : List (Nat × aK) := [(0, ⟨[SN [0, 1, 7, 8] (u4 hM (.fn 127 .nil .nil) hA hA) .nil], [SY [4] hX .nil, SX 0 [] .nil .nil], qy_W0 n⟩)]
theorem qy_ok (n : Nat) : aM Tryz.prog 165 (qy_E n) :=
 aM.bS n zz Tryz.f165 { live := [(0, [0, 1, 7, 8])] } (qy_ls n) (.k (qco_ok n) .e) (.k (fun _ => rfl) (fun _ => by kernel_rfl) .e) (by kernel_rfl) (by kernel_rfl) fun _ => by kernel_rfl
def qg_E (n : Nat) : aG := ⟨(SN [0, 1] (u2 hM (.fn 127 .nil .nil)) .nil), [SY [0] hC .nil], fun d => qg n d⟩
theorem qg_ok (n : Nat) : aM Tryz.prog 126 (qg_E n) :=
 aM.bS n zz Tryz.f126 {} [] (.k (qy_ok n) .e) .e (by kernel_rfl) (by kernel_rfl) fun _ => by kernel_rfl
def qdr_E (n : Nat) : aG := ⟨(SN [0] MC .nil), [SY [0] hC .nil], fun d => qdr n d.1 d.2⟩
theorem qdr_ok (n : Nat) : aM Tryz.prog 129 (qdr_E n) :=
 aM.bS n zz Tryz.f129 {} [] .e .e (by kernel_rfl) (by kernel_rfl) fun _ => by kernel_rfl
def qbi_E (n : Nat) : aG := ⟨(SN [0] MC .nil), [SY [0] hC .nil], fun d => qbi n d.1 d.2⟩
theorem qbi_ok (n : Nat) : aM Tryz.prog 130 (qbi_E n) :=
 aM.bS n zz Tryz.f130 {} [] (.k (qdr_ok n) .e) .e (by kernel_rfl) (by kernel_rfl) fun _ => by kernel_rfl
def qaa_E (n : Nat) : aG := ⟨(SN [0, 1] (u2 hM (.fn 130 .nil .nil)) .nil), [SY [0] hX .nil], fun d => qaa n d⟩
def qaa_ls (n : Nat) : List (Nat × aK) := [(0, ⟨[SN [0, 1, 7, 8] (u4 hM (.fn 130 .nil .nil) hA hA) .nil], [SY [4] hX .nil, SX 0 [] .nil .nil], qaa_W0 n⟩)]
theorem qaa_ok (n : Nat) : aM Tryz.prog 165 (qaa_E n) :=
 aM.bS n zz Tryz.f165 { live := [(0, [0, 1, 7, 8])] } (qaa_ls n) (.k (qbi_ok n) .e) (.k (fun _ => rfl) (fun _ => by kernel_rfl) .e) (by kernel_rfl) (by kernel_rfl) fun _ => by kernel_rfl
def qe_E (n : Nat) : aG := ⟨(SN [0, 1] (u2 hM (.fn 130 .nil .nil)) .nil), [SY [0] hC .nil], fun d => qe n d⟩
theorem qe_ok (n : Nat) : aM Tryz.prog 126 (qe_E n) :=
 aM.bS n zz Tryz.f126 {} [] (.k (qaa_ok n) .e) .e (by kernel_rfl) (by kernel_rfl) fun _ => by kernel_rfl
def qcd_E (n : Nat) : aG := ⟨(SN [0] (u1 (.agg (u3 hM hA hA))) .nil), [SY [0] hC .nil], fun d => qcd n d.1 d.2.1 d.2.2⟩
theorem qcd_ok (n : Nat) : aM Tryz.prog 128 (qcd_E n) :=
 aM.bS n zz Tryz.f128 {} [] (.k (qdr_ok n) (.k (qe_ok n) .e)) .e (by kernel_rfl) (by kernel_rfl) fun _ => by kernel_rfl
def qq_E (n : Nat) : aG := ⟨(SN [0, 1] (u2 hK (.fn 128 .nil .nil)) .nil), [SY [0] hX .nil], fun d => qq n d⟩
def qq_ls (n : Nat) : List (Nat × aK) := [(0, ⟨[SN [0, 1, 7, 8] (u4 hK (.fn 128 .nil .nil) hA hA) .nil], [SY [4] hX .nil, SX 0 [] .nil .nil], qq_W0 n⟩)]
theorem qq_ok (n : Nat) : aM Tryz.prog 166 (qq_E n) :=
 aM.bS n zz Tryz.f166 { live := [(0, [0, 1, 7, 8])] } (qq_ls n) (.k (qcd_ok n) .e) (.k (fun _ => rfl) (fun _ => by kernel_rfl) .e) (by kernel_rfl) (by kernel_rfl) fun _ => by kernel_rfl
def qa_E (n : Nat) : aG := ⟨(SN [0, 1] (u2 hK (.fn 128 .nil .nil)) .nil), [SY [0] hC .nil], fun d => qa n d⟩
theorem qa_ok (n : Nat) : aM Tryz.prog 131 (qa_E n) :=
 aM.bS n zz Tryz.f131 {} [] (.k (qq_ok n) .e) .e (by kernel_rfl) (by kernel_rfl) fun _ => by kernel_rfl
def qcv_E (n : Nat) : aG := ⟨(SN [0] KX .nil), [SY [0] hX .nil], fun d => qcv n d.1 d.2.1 d.2.2.1 d.2.2.2.1 d.2.2.2.2⟩
def qcv_ls (n : Nat) : List (Nat × aK) := [(0, ⟨[SN [1, 18, 19, 20] QD vS], [SY [2] hX Jc, SX 0 [1] A7 vS], qcv_W0 n⟩)]
theorem qcv_ok (n : Nat) : aM Tryz.prog 84 (qcv_E n) :=
 aM.bS n zz Tryz.f84 { live := [(0, [1, 18, 19, 20])] } (qcv_ls n) (.k (qax_ok n) (.k (qb_ok n) (.k (qg_ok n) (.k (qa_ok n) .e)))) (.k (fun _ => rfl) (fun _ => by kernel_rfl) .e) (by kernel_rfl) (by kernel_rfl) fun _ => by kernel_rfl
def qef_E (n : Nat) : aG := ⟨(SN [0] KX .nil), [SY [0] hC .nil], fun d => qef n d.1 d.2.1 d.2.2.1 d.2.2.2.1 d.2.2.2.2⟩
theorem qef_ok (n : Nat) : aM Tryz.prog 43 (qef_E n) :=
 aM.bS n zz Tryz.f43 {} [] (.k (qcv_ok n) .e) .e (by kernel_rfl) (by kernel_rfl) fun _ => by kernel_rfl
def qca_E (n : Nat) : aG := ⟨(SN [0, 1] (u2 J0 hA) .nil), [SY [0] (u1 (.tup (u2 QY hA))) .nil], fun d => qca n d.1.1 d.1.2.1 d.1.2.2.1 d.1.2.2.2.1 d.1.2.2.2.2 d.2⟩
theorem qca_ok (n : Nat) : aM Tryz.prog 14 (qca_E n) :=
 aM.bS n zz Tryz.f14 {} [] (.k (qef_ok n) .e) .e (by kernel_rfl) (by kernel_rfl) fun _ => by kernel_rfl
def qbg_E (n : Nat) : aG := ⟨(SN [0] (u1 A5) .nil), [SY [0] (u1 (.sl false false (.int .u64))) .nil], fun d => qbg n d⟩
theorem qbg_ok (n : Nat) : aM Tryz.prog 121 (qbg_E n) :=
 aM.bS n zz Tryz.f121 { boxed := [(3, 0)] } [] .e .e (by kernel_rfl) (by kernel_rfl) fun _ => by kernel_rfl
def qbp_E (n : Nat) : aG := ⟨(SN [0] (u1 A5) .nil), [SY [0] (u1 A5) .nil], fun d => qbp n d⟩
theorem qbp_ok (n : Nat) : aM Tryz.prog 120 (qbp_E n) :=
 aM.bS n zz Tryz.f120 {} [] .e .e (by kernel_rfl) (by kernel_rfl) fun _ => by kernel_rfl
def qap_E (n : Nat) : aG := ⟨(SN [0] (u1 hP) .nil), [SY [0] (u1 hP) .nil], fun d => qap n d⟩
def qap_ls (n : Nat) : List (Nat × aK) := [(0, ⟨[SN [3, 6, 7, 8] (u4 hD hP hA hA) QV, SN [3, 6, 7, 8] (u4 hD hP hA hA) Q3], [SX 0 [3] LC QV, SX 0 [3] LC Q3], qap_W0 n⟩)]
theorem qap_ok (n : Nat) : aM Tryz.prog 80 (qap_E n) :=
 aM.bS n zz Tryz.f80 { live := [(0, [3, 6, 7, 8])], boxed := [(1, 0), (6, 3)] } (qap_ls n) (.k (qbg_ok n) (.k (qbp_ok n) .e)) (.k (fun _ => rfl) (fun s => by rcases s with s | s <;> kernel_rfl) .e) (by kernel_rfl) (by kernel_rfl) fun _ => by kernel_rfl
def qdj_E (n : Nat) : aG := ⟨(SN [0] (u1 hP) .nil), [SY [0] (u1 hP) .nil], fun d => qdj n d⟩
theorem qdj_ok (n : Nat) : aM Tryz.prog 79 (qdj_E n) :=
 aM.bS n zz Tryz.f79 {} [] .e .e (by kernel_rfl) (by kernel_rfl) fun _ => by kernel_rfl
def qcz_E (n : Nat) : aG := ⟨(SN [0] (u1 LX) .nil), [SY [0] Ky .nil], fun d => qcz n d⟩
theorem qcz_ok (n : Nat) : aM Tryz.prog 162 (qcz_E n) :=
 aM.bS n zz Tryz.f162 { boxed := [(3, 0)] } [] .e .e (by kernel_rfl) (by kernel_rfl) fun _ => by kernel_rfl
def qdt_E (n : Nat) : aG := ⟨(SN [0] (u1 LX) .nil), [SY [0] (u1 LX) .nil], fun d => qdt n d⟩
theorem qdt_ok (n : Nat) : aM Tryz.prog 161 (qdt_E n) :=
 aM.bS n zz Tryz.f161 {} [] .e .e (by kernel_rfl) (by kernel_rfl) fun _ => by kernel_rfl
def qck_E (n : Nat) : aG := ⟨(SN [0] (u1 PN) .nil), [SY [0] (u1 PN) .nil], fun d => qck n d.1 d.2.1 d.2.2.1 d.2.2.2⟩
theorem qck_ok (n : Nat) : aM Tryz.prog 122 (qck_E n) :=
 aM.bS n zz Tryz.f122 {} [] (.k (qbg_ok n) (.k (qbp_ok n) (.k (qcz_ok n) (.k (qdt_ok n) .e)))) .e (by kernel_rfl) (by kernel_rfl) fun _ => by kernel_rfl
def qej_E (n : Nat) : aG := ⟨(SN [0] (u1 hQ) .nil), [SY [0] (u1 hQ) .nil], fun d => qej n d⟩
def qej_ls (n : Nat) : List (Nat × aK) := [(0, ⟨[SN [3, 6, 7, 8] (u4 hD hQ hA hA) QT, SN [3, 6, 7, 8] (u4 hD hQ hA hA) QM], [SX 0 [3] LC QT, SX 0 [3] LC QM], qej_W0 n⟩)]
theorem qej_ok (n : Nat) : aM Tryz.prog 81 (qej_E n) :=
 aM.bS n zz Tryz.f81 { live := [(0, [3, 6, 7, 8])], boxed := [(1, 0), (5, 4)] } (qej_ls n) (.k (qck_ok n) .e) (.k (fun _ => rfl) (fun s => by rcases s with s | s <;> kernel_rfl) .e) (by kernel_rfl) (by kernel_rfl) fun _ => by kernel_rfl
def qel_E (n : Nat) : aG := ⟨(SN [0] (u1 hQ) .nil), [SY [0] (u1 hQ) .nil], fun d => qel n d⟩
theorem qel_ok (n : Nat) : aM Tryz.prog 57 (qel_E n) :=
 aM.bS n zz Tryz.f57 {} [] .e .e (by kernel_rfl) (by kernel_rfl) fun _ => by kernel_rfl
def qbk_E (n : Nat) : aG := ⟨(SN [0] (u1 hR) .nil), [SY [0] (u1 (.sl false true yI)) .nil], fun d => qbk n d⟩
theorem qbk_ok (n : Nat) : aM Tryz.prog 83 (qbk_E n) :=
 aM.bS n zz Tryz.f83 { boxed := [(3, 0)] } [] .e .e (by kernel_rfl) (by kernel_rfl) fun _ => by kernel_rfl
def qcg_E (n : Nat) : aG := ⟨(SN [0] (u1 hR) .nil), [SY [0] (u1 hR) .nil], fun d => qcg n d⟩
theorem qcg_ok (n : Nat) : aM Tryz.prog 82 (qcg_E n) :=
 aM.bS n zz Tryz.f82 {} [] .e .e (by kernel_rfl) (by kernel_rfl) fun _ => by kernel_rfl
def qcp_E (n : Nat) : aG := ⟨(SN [0] (u1 MX) .nil), [SY [0] (u1 MX) .nil], fun d => qcp n d.1 d.2.1 d.2.2.1 d.2.2.2.1 d.2.2.2.2.1 d.2.2.2.2.2.1 d.2.2.2.2.2.2⟩
theorem qcp_ok (n : Nat) : aM Tryz.prog 42 (qcp_E n) :=
 aM.bS n zz Tryz.f42 {} [] (.k (qap_ok n) (.k (qdj_ok n) (.k (qej_ok n) (.k (qel_ok n) (.k (qbk_ok n) (.k (qcg_ok n) .e)))))) .e (by kernel_rfl) (by kernel_rfl) fun _ => by kernel_rfl
def qbl_E (n : Nat) : aG := ⟨(SN [0, 1] (u2 A5 A5) .nil), [SY [0] hC .nil], fun d => qbl n d.1 d.2⟩
def qbl_ls (n : Nat) : List (Nat × aK) := [(0, ⟨[SN [0, 1, 12, 13] (u4 A5 A5 hA hA) .nil], [SY [4] hC .nil, SX 0 [] .nil .nil], qbl_W0 n⟩)]
theorem qbl_ok (n : Nat) : aM Tryz.prog 118 (qbl_E n) :=
 aM.bS n zz Tryz.f118 { live := [(0, [0, 1, 12, 13])] } (qbl_ls n) .e (.k (fun _ => rfl) (fun _ => by kernel_rfl) .e) (by kernel_rfl) (by kernel_rfl) fun _ => by kernel_rfl
def qbn_E (n : Nat) : aG := ⟨(SN [0, 1] (u2 PO PO) .nil), [SY [0] hC .nil], fun d => qbn n d.1.1 d.1.2.1 d.1.2.2.1 d.1.2.2.2 d.2.1 d.2.2.1 d.2.2.2.1 d.2.2.2.2⟩
theorem qbn_ok (n : Nat) : aM Tryz.prog 75 (qbn_E n) :=
 aM.bS n zz Tryz.f75 {} [] (.k (qbl_ok n) .e) .e (by kernel_rfl) (by kernel_rfl) fun _ => by kernel_rfl
def qak_E (n : Nat) : aG := ⟨(SN [0, 1, 2] (u3 hP hP (.fn 75 .nil .nil)) .nil), [SY [0] hC .nil], fun d => qak n d.1 d.2⟩
def qak_ls (n : Nat) : List (Nat × aK) := [(0, ⟨[SN [1, 2, 15, 16, 17] (u5 hP (.fn 75 .nil .nil) hP hA hA) .nil], [SY [6] hC (u2 PS PS), SX 0 [] .nil .nil], qak_W0 n⟩)]
theorem qak_ok (n : Nat) : aM Tryz.prog 74 (qak_E n) :=
 aM.bS n zz Tryz.f74 { live := [(0, [1, 2, 15, 16, 17])] } (qak_ls n) (.k (qbn_ok n) .e) (.k (fun _ => rfl) (fun _ => by kernel_rfl) .e) (by kernel_rfl) (by kernel_rfl) fun _ => by kernel_rfl
def qdo_E (n : Nat) : aG := ⟨(SN [0, 1] (u2 LX LX) .nil), [SY [0] hC .nil], fun d => qdo n d.1 d.2⟩
def qdo_ls (n : Nat) : List (Nat × aK) := [(0, ⟨[SN [0, 1, 12, 13] (u4 LX LX hA hA) .nil], [SY [4] hC .nil, SX 0 [] .nil .nil], qdo_W0 n⟩)]
theorem qdo_ok (n : Nat) : aM Tryz.prog 119 (qdo_E n) :=
 aM.bS n zz Tryz.f119 { live := [(0, [0, 1, 12, 13])] } (qdo_ls n) .e (.k (fun _ => rfl) (fun _ => by kernel_rfl) .e) (by kernel_rfl) (by kernel_rfl) fun _ => by kernel_rfl
def qcr_E (n : Nat) : aG := ⟨(SN [0, 1] (u2 PN PN) .nil), [SY [0] hC .nil], fun d => qcr n d.1.1 d.1.2.1 d.1.2.2.1 d.1.2.2.2 d.2.1 d.2.2.1 d.2.2.2.1 d.2.2.2.2⟩
theorem qcr_ok (n : Nat) : aM Tryz.prog 77 (qcr_E n) :=
 aM.bS n zz Tryz.f77 {} [] (.k (qbl_ok n) (.k (qdo_ok n) .e)) .e (by kernel_rfl) (by kernel_rfl) fun _ => by kernel_rfl
def qba_E (n : Nat) : aG := ⟨(SN [0, 1, 2] (u3 hQ hQ (.fn 77 .nil .nil)) .nil), [SY [0] hC .nil], fun d => qba n d.1 d.2⟩
def qba_ls (n : Nat) : List (Nat × aK) := [(0, ⟨[SN [1, 2, 15, 16, 17] (u5 hQ (.fn 77 .nil .nil) hQ hA hA) .nil], [SY [6] hC (u2 Qz Qz), SX 0 [] .nil .nil], qba_W0 n⟩)]
theorem qba_ok (n : Nat) : aM Tryz.prog 76 (qba_E n) :=
 aM.bS n zz Tryz.f76 { live := [(0, [1, 2, 15, 16, 17])] } (qba_ls n) (.k (qcr_ok n) .e) (.k (fun _ => rfl) (fun _ => by kernel_rfl) .e) (by kernel_rfl) (by kernel_rfl) fun _ => by kernel_rfl
def qbj_E (n : Nat) : aG := ⟨(SN [0, 1] (u2 hR hR) .nil), [SY [0] hC .nil], fun d => qbj n d.1 d.2⟩
def qbj_ls (n : Nat) : List (Nat × aK) := [(0, ⟨[SN [0, 1, 12, 13] (u4 hR hR hA hA) .nil], [SY [4] hC .nil, SX 0 [] .nil .nil], qbj_W0 n⟩)]
theorem qbj_ok (n : Nat) : aM Tryz.prog 78 (qbj_E n) :=
 aM.bS n zz Tryz.f78 { live := [(0, [0, 1, 12, 13])] } (qbj_ls n) .e (.k (fun _ => rfl) (fun _ => by kernel_rfl) .e) (by kernel_rfl) (by kernel_rfl) fun _ => by kernel_rfl
def qdh_E (n : Nat) : aG := ⟨(SN [0, 1] (u2 MX MX) .nil), [SY [0] hC .nil], fun d => qdh n d.1.1 d.1.2.1 d.1.2.2.1 d.1.2.2.2.1 d.1.2.2.2.2.1 d.1.2.2.2.2.2.1 d.1.2.2.2.2.2.2 d.2.1 d.2.2.1 d.2.2.2.1 d.2.2.2.2.1 d.2.2.2.2.2.1 d.2.2.2.2.2.2.1 d.2.2.2.2.2.2.2⟩
theorem qdh_ok (n : Nat) : aM Tryz.prog 41 (qdh_E n) :=
 aM.bS n zz Tryz.f41 {} [] (.k (qak_ok n) (.k (qba_ok n) (.k (qbj_ok n) .e))) .e (by kernel_rfl) (by kernel_rfl) fun _ => by kernel_rfl
def qav_E (n : Nat) : aG := ⟨(SN [] .nil .nil), [SY [0] hC .nil], fun d => qav n⟩
theorem qav_ok (n : Nat) : aM Tryz.prog 13 (qav_E n) :=
 aM.bS n zz Tryz.f13 {} [] (.k (qca_ok n) (.k (qcp_ok n) (.k (qdh_ok n) .e))) .e (by kernel_rfl) (by kernel_rfl) fun _ => by kernel_rfl
def qeh_Ed (n d : Nat) : aG := ⟨(SN [0] (u1 hB) .nil), [SY [0] LC Je], qeh_D n d⟩
def qeh_E (n : Nat) : aG := ⟨(SN [0] (u1 hB) .nil), [SY [0] LC Je], fun d => qeh n d⟩
theorem qeh_okd (n d : Nat) : aM Tryz.prog 63 (qeh_Ed n d) :=
 Nat.rec (aM.none (by kernel_rfl) fun _ => rfl) (fun d ih => aM.b n zz Tryz.f63 { boxed := [(0, 0), (2, 2), (3, 4), (3, 8)] } [] (.k ih .e) .e (by kernel_rfl) (by kernel_rfl) fun _ => by kernel_rfl) d
theorem qeh_ok (n : Nat) : aM Tryz.prog 63 (qeh_E n) := qeh_okd n n
def qde_E (n : Nat) : aG := ⟨(SN [0, 1] (u2 Mu hA) .nil), [SY [0] hC .nil], fun d => qde n d.1.1 d.1.2 d.2⟩
theorem qde_ok (n : Nat) : aM Tryz.prog 65 (qde_E n) :=
 aM.bS n zz Tryz.f65 {} [] .e .e (by kernel_rfl) (by kernel_rfl) fun _ => by kernel_rfl
def qcu_E (n : Nat) : aG := ⟨(SN [0] MC .nil), [SY [0] Ky .nil], fun d => qcu n d.1 d.2⟩
theorem qcu_ok (n : Nat) : aM Tryz.prog 66 (qcu_E n) :=
 aM.bS n zz Tryz.f66 { raw := [(6, 2)] } [] (.k (qeh_ok n) .e) .e (by kernel_rfl) (by kernel_rfl) fun _ => by kernel_rfl
def qaw_E (n : Nat) : aG := ⟨(SN [0, 1, 2] (u3 hM hA hA) .nil), [SY [0] (u1 (.tup PZ)) .nil], fun d => qaw n d.1 d.2.1 d.2.2⟩
def qaw_ls (n : Nat) : List (Nat × aK) := [(0, ⟨[SN [0, 1, 2, 8, 9] (u5 hM hA hA hD hA) Je], [SY [6, 7] PZ Je, SX 0 [0, 2, 8] (u3 hM hA hD) Je], qaw_W0 n⟩)]
theorem qaw_ok (n : Nat) : aM Tryz.prog 64 (qaw_E n) :=
 aM.bS n zz Tryz.f64 { live := [(0, [0, 1, 2, 8, 9])], boxed := [(7, 6)], raw := [(1, 3)] } (qaw_ls n) (.k (qeh_ok n) (.k (qde_ok n) (.k (qcu_ok n) .e))) (.k (fun _ => rfl) (fun _ => by kernel_rfl) .e) (by kernel_rfl) (by kernel_rfl) fun _ => by kernel_rfl
def qda_E (n : Nat) : aG := ⟨(SN [0] hX .nil), [SY [0] hX .nil], fun d => qda n d⟩
def qda_ls (n : Nat) : List (Nat × aK) := [(0, ⟨[SN [0, 3, 4] (u3 hA NT hA) .nil], [SY [2] hX .nil, SX 0 [] .nil .nil], qda_W0 n⟩)]
theorem qda_ok (n : Nat) : aM Tryz.prog 117 (qda_E n) :=
 aM.bS n zz Tryz.f117 { live := [(0, [0, 3, 4])] } (qda_ls n) .e (.k (fun _ => rfl) (fun _ => by kernel_rfl) .e) (by kernel_rfl) (by kernel_rfl) fun _ => by kernel_rfl
def qbt_E (n : Nat) : aG := ⟨(SN [0] (u1 O9) .nil), [SY [0] Ky .nil], fun d => qbt n d.1 d.2.1 d.2.2⟩
theorem qbt_ok (n : Nat) : aM Tryz.prog 67 (qbt_E n) :=
 aM.bS n zz Tryz.f67 { boxed := [(4, 3), (6, 5), (8, 5)] } [] (.k (qda_ok n) (.k (qeh_ok n) .e)) .e (by kernel_rfl) (by kernel_rfl) fun _ => by kernel_rfl
def qcl_E (n : Nat) : aG := ⟨(SN [0, 1] (u2 hB hA) .nil), [SY [0] Ky .nil], fun d => qcl n d.1 d.2⟩
def qcl_ls (n : Nat) : List (Nat × aK) := [(0, ⟨[SN [0, 1, 5, 6] (u4 hB hA hD hA) Je], [SX 0 [5] LC Je], qcl_W0 n⟩)]
theorem qcl_ok (n : Nat) : aM Tryz.prog 68 (qcl_E n) :=
 aM.bS n zz Tryz.f68 { live := [(0, [0, 1, 5, 6])], boxed := [(1, 0), (5, 5)] } (qcl_ls n) .e (.k (fun _ => rfl) (fun _ => by kernel_rfl) .e) (by kernel_rfl) (by kernel_rfl) fun _ => by kernel_rfl
def qdl_E (n : Nat) : aG := ⟨(SN [0] (u1 hO) .nil), [SY [0] Ky .nil], fun d => qdl n d⟩
def qdl_ls (n : Nat) : List (Nat × aK) := [(0, ⟨[SN [0, 3, 4] (u3 hO hD hA) Je], [SX 0 [3] LC Je], qdl_W0 n⟩)]
theorem qdl_ok (n : Nat) : aM Tryz.prog 69 (qdl_E n) :=
 aM.bS n zz Tryz.f69 { live := [(0, [0, 3, 4])], boxed := [(5, 8), (5, 13)], raw := [(1, 3)] } (qdl_ls n) (.k (qeh_ok n) .e) (.k (fun _ => rfl) (fun _ => by kernel_rfl) .e) (by kernel_rfl) (by kernel_rfl) fun _ => by kernel_rfl
def qbb_E (n : Nat) : aG := ⟨(SN [0] KX .nil), [SY [0] (u1 (.tup PZ)) .nil], fun d => qbb n d.1 d.2.1 d.2.2.1 d.2.2.2.1 d.2.2.2.2⟩
def qbb_ls (n : Nat) : List (Nat × aK) := [(0, ⟨[SN [1, 4, 5, 6, 7] (u5 hW hA .bool hE hA) (u2 E9 wV)], [SX 0 [1, 4, 5, 6] (u4 hW hA .bool hE) (u2 E9 wV)], qbb_W0 n⟩), (4, ⟨[SN [1, 4, 5, 6, 10, 11, 12, 17] (u8 hW hA .bool hE hF hA (.ptr 3 0 0 0) hA) Qg], [SY [2, 3] PZ Qg, SX 4 [1, 4, 5, 6, 10, 11] (u6 hW hA .bool hE hF hA) Qg], qbb_W4 n⟩), (2, ⟨[SN [1, 4, 5, 6, 10, 11] (u6 hW hA .bool hE hF hA) (u3 E9 wV wV)], [SY [2, 3] PZ Qg, SX 2 [1, 4, 5, 6, 10] (u5 hW hA .bool hE hF) (u3 E9 wV wV)], qbb_W2 n⟩), (6, ⟨[SN [1, 4, 5, 6, 10, 19, 20] (u7 hW hA .bool hE hF hG hA) (u4 E9 wV wV wV)], [SX 6 [1, 5, 6, 10, 19] (u5 hW .bool hE hF hG) (u4 E9 wV wV wV)], qbb_W6 n⟩), (8, ⟨[SN [1, 5, 6, 10, 19, 23, 24] (u7 hW .bool hE hF hG hH hA) (u5 E9 wV wV wV wV)], [SX 8 [1, 5, 6, 10, 19, 23] (u6 hW .bool hE hF hG hH) (u5 E9 wV wV wV wV)], qbb_W8 n⟩), (10, ⟨[SN [1, 5, 6, 10, 19, 23, 25, 26] (u8 hW .bool hE hF hG hH (.msw 5 0) hA) Q7], [SX 10 [5, 6, 10, 19, 23, 25] (u6 .bool hE hF hG hH (.msw 5 0)) Q7], qbb_W10 n⟩)]
theorem qbb_ok (n : Nat) : aM Tryz.prog 37 (qbb_E n) :=
 aM.bS n zz Tryz.f37 { live := [(0, [1, 4, 5, 6, 7]), (2, [1, 4, 5, 6, 10, 11]), (4, [1, 4, 5, 6, 10, 11, 12, 17]), (6, [1, 4, 5, 6, 10, 19, 20]), (8, [1, 5, 6, 10, 19, 23, 24]), (10, [1, 5, 6, 10, 19, 23, 25, 26])], boxed := [(10, 2), (21, 2), (21, 6), (21, 8), (21, 14), (28, 2), (35, 2), (35, 10), (40, 7), (46, 9), (46, 15)], raw := [(5, 2), (11, 4), (29, 4), (36, 4), (41, 4)] } (qbb_ls n) (.k (qeh_ok n) (.k (qaw_ok n) (.k (qde_ok n) (.k (qcu_ok n) (.k (qbt_ok n) (.k (qcl_ok n) (.k (qdl_ok n) .e))))))) (.k (fun _ => rfl) (fun _ => by kernel_rfl) (.k (fun _ => rfl) (fun _ => by kernel_rfl) (.k (fun _ => rfl) (fun _ => by kernel_rfl) (.k (fun _ => rfl) (fun _ => by kernel_rfl) (.k (fun _ => rfl) (fun _ => by kernel_rfl) (.k (fun _ => rfl) (fun _ => by kernel_rfl) .e)))))) (by kernel_rfl) (by kernel_rfl) fun _ => by kernel_rfl
def qcq_E (n : Nat) : aG := ⟨(SN [0, 1, 2] QE .nil), [SY [0] hC .nil], fun d => qcq n d.1.1 d.1.2.1 d.1.2.2.1 d.1.2.2.2.1 d.1.2.2.2.2 d.2.1.1 d.2.1.2.1 d.2.1.2.2.1 d.2.1.2.2.2.1 d.2.1.2.2.2.2 d.2.2.1 d.2.2.2.1 d.2.2.2.2⟩
theorem qcq_ok (n : Nat) : aM Tryz.prog 85 (qcq_E n) :=
 aM.bS n zz Tryz.f85 {} [] .e .e (by kernel_rfl) (by kernel_rfl) fun _ => by kernel_rfl
def qdb_E (n : Nat) : aG := ⟨(SN [0] MC .nil), [SY [0] hC .nil], fun d => qdb n d.1 d.2⟩
theorem qdb_ok (n : Nat) : aM Tryz.prog 86 (qdb_E n) :=
 aM.bS n zz Tryz.f86 {} [] .e .e (by kernel_rfl) (by kernel_rfl) fun _ => by kernel_rfl
def qce_E (n : Nat) : aG := ⟨(SN [0] KX .nil), [SY [0] hX .nil], fun d => qce n d.1 d.2.1 d.2.2.1 d.2.2.2.1 d.2.2.2.2⟩
def qce_ls (n : Nat) : List (Nat × aK) := [(2, ⟨[SN [1, 5, 6, 7] (u4 hW hA hZ hA) Jc], [SY [2] hX Jc, SX 2 [1, 5, 6] (u3 hW hA hZ) Jc], qce_W2 n⟩), (4, ⟨[SN [1, 5, 6, 8] (u4 hW hA hZ hA) Jc], [SY [2] hX Jc, SX 4 [1, 5] O0 Jc], qce_W4 n⟩), (0, ⟨[SN [1, 5] O0 vS], [SY [2] hX Jc, SX 0 [1] A7 vS], qce_W0 n⟩), (8, ⟨[SN [1, 9, 10, 11] (u4 hW hA .bool hA) vS], [SX 8 [1, 9, 10] (u3 hW hA .bool) vS], qce_W8 n⟩), (6, ⟨[SN [1, 9] O0 vS], [SY [2] hX vS, SX 6 [] .nil vS], qce_W6 n⟩)]
theorem qce_ok (n : Nat) : aM Tryz.prog 44 (qce_E n) :=
 aM.bS n zz Tryz.f44 { live := [(0, [1, 5]), (2, [1, 5, 6, 7]), (4, [1, 5, 6, 8]), (6, [1, 9]), (8, [1, 9, 10, 11])] } (qce_ls n) (.k (qbb_ok n) (.k (qcq_ok n) (.k (qdb_ok n) .e))) (.k (fun _ => rfl) (fun _ => by kernel_rfl) (.k (fun _ => rfl) (fun _ => by kernel_rfl) (.k (fun _ => rfl) (fun _ => by kernel_rfl) (.k (fun _ => rfl) (fun _ => by kernel_rfl) (.k (fun _ => rfl) (fun _ => by kernel_rfl) .e))))) (by kernel_rfl) (by kernel_rfl) fun _ => by kernel_rfl
def qdk_E (n : Nat) : aG := ⟨(SN [0] KX .nil), [SY [0] hC .nil], fun d => qdk n d.1 d.2.1 d.2.2.1 d.2.2.2.1 d.2.2.2.2⟩
theorem qdk_ok (n : Nat) : aM Tryz.prog 15 (qdk_E n) :=
 aM.bS n zz Tryz.f15 {} [] (.k (qce_ok n) .e) .e (by kernel_rfl) (by kernel_rfl) fun _ => by kernel_rfl
def qch_E (n : Nat) : aG := ⟨(SN [0, 1] (u2 A5 A5) .nil), [SY [0] hC .nil], fun d => qch n d.1 d.2⟩
def qch_ls (n : Nat) : List (Nat × aK) := [(0, ⟨[SN [0, 1, 5] (u3 A5 A5 hA) .nil], [SY [4] hC .nil, SX 0 [] .nil .nil], qch_W0 n⟩)]
theorem qch_ok (n : Nat) : aM Tryz.prog 31 (qch_E n) :=
 aM.bS n zz Tryz.f31 { live := [(0, [0, 1, 5])] } (qch_ls n) .e (.k (fun _ => rfl) (fun _ => by kernel_rfl) .e) (by kernel_rfl) (by kernel_rfl) fun _ => by kernel_rfl
def qcw_E (n : Nat) : aG := ⟨(SN [0, 1] (u2 LX LX) .nil), [SY [0] hC .nil], fun d => qcw n d.1 d.2⟩
def qcw_ls (n : Nat) : List (Nat × aK) := [(0, ⟨[SN [0, 1, 5] (u3 LX LX hA) .nil], [SY [4] hC .nil, SX 0 [] .nil .nil], qcw_W0 n⟩)]
theorem qcw_ok (n : Nat) : aM Tryz.prog 40 (qcw_E n) :=
 aM.bS n zz Tryz.f40 { live := [(0, [0, 1, 5])] } (qcw_ls n) .e (.k (fun _ => rfl) (fun _ => by kernel_rfl) .e) (by kernel_rfl) (by kernel_rfl) fun _ => by kernel_rfl
def qdf_E (n : Nat) : aG := ⟨(SN [0, 1] (u2 hQ hQ) .nil), [SY [0] hC .nil], fun d => qdf n d.1 d.2⟩
def qdf_ls (n : Nat) : List (Nat × aK) := [(0, ⟨[SN [0, 1, 5] (u3 hQ hQ hA) .nil], [SY [4] hC .nil, SX 0 [] .nil .nil], qdf_W0 n⟩)]
theorem qdf_ok (n : Nat) : aM Tryz.prog 45 (qdf_E n) :=
 aM.bS n zz Tryz.f45 { live := [(0, [0, 1, 5])] } (qdf_ls n) (.k (qch_ok n) (.k (qcw_ok n) .e)) (.k (fun _ => rfl) (fun _ => by kernel_rfl) .e) (by kernel_rfl) (by kernel_rfl) fun _ => by kernel_rfl
def qcy_E (n : Nat) : aG := ⟨(SN [0, 1] (u2 hR hR) .nil), [SY [0] hC .nil], fun d => qcy n d.1 d.2⟩
def qcy_ls (n : Nat) : List (Nat × aK) := [(0, ⟨[SN [0, 1, 5] (u3 hR hR hA) .nil], [SY [4] hC .nil, SX 0 [] .nil .nil], qcy_W0 n⟩)]
theorem qcy_ok (n : Nat) : aM Tryz.prog 32 (qcy_E n) :=
 aM.bS n zz Tryz.f32 { live := [(0, [0, 1, 5])] } (qcy_ls n) .e (.k (fun _ => rfl) (fun _ => by kernel_rfl) .e) (by kernel_rfl) (by kernel_rfl) fun _ => by kernel_rfl
def qbe_E (n : Nat) : aG := ⟨(SN [0, 1] (u2 MX MX) .nil), [SY [0] hC .nil], fun d => qbe n d.1.1 d.1.2.1 d.1.2.2.1 d.1.2.2.2.1 d.1.2.2.2.2.1 d.1.2.2.2.2.2.1 d.1.2.2.2.2.2.2 d.2.1 d.2.2.1 d.2.2.2.1 d.2.2.2.2.1 d.2.2.2.2.2.1 d.2.2.2.2.2.2.1 d.2.2.2.2.2.2.2⟩
def qbe_ls (n : Nat) : List (Nat × aK) := [(0, ⟨[SN [2, 3, 5] (u3 hW hZ hA) (u2 NS NS)], [SY [4] hC (u4 NS NS PS PS), SX 0 [2, 3] (u2 hW hZ) (u2 NS NS)], qbe_W0 n⟩)]
theorem qbe_ok (n : Nat) : aM Tryz.prog 16 (qbe_E n) :=
 aM.bS n zz Tryz.f16 { live := [(0, [2, 3, 5])] } (qbe_ls n) (.k (qch_ok n) (.k (qdf_ok n) (.k (qcy_ok n) .e))) (.k (fun _ => rfl) (fun _ => by kernel_rfl) .e) (by kernel_rfl) (by kernel_rfl) fun _ => by kernel_rfl
def qcb_E (n : Nat) : aG := ⟨(SN [0, 1] (u2 Pj hA) .nil), [SY [0] MC .nil], fun d => qcb n d.1.1 d.1.2.1 d.1.2.2.1 d.1.2.2.2.1 d.1.2.2.2.2 d.2⟩
theorem qcb_ok (n : Nat) : aM Tryz.prog 132 (qcb_E n) :=
 aM.bS n zz Tryz.f132 { boxed := [(1, 0), (1, 3)] } [] .e .e (by kernel_rfl) (by kernel_rfl) fun _ => by kernel_rfl
def qcs_E (n : Nat) : aG := ⟨(SN [0, 1, 2, 3] (u4 J0 Pj O9 hM) .nil), [SY [0] (u1 (.tup (u3 hM hS .bool))) .nil], fun d => qcs n d.1.1 d.1.2.1 d.1.2.2.1 d.1.2.2.2.1 d.1.2.2.2.2 d.2.1.1 d.2.1.2.1 d.2.1.2.2.1 d.2.1.2.2.2.1 d.2.1.2.2.2.2 d.2.2.1.1 d.2.2.1.2.1 d.2.2.1.2.2 d.2.2.2⟩
theorem qcs_ok (n : Nat) : aM Tryz.prog 87 (qcs_E n) :=
 aM.bS n zz Tryz.f87 {} [] (.k (qcb_ok n) .e) .e (by kernel_rfl) (by kernel_rfl) fun _ => by kernel_rfl
def qeb_E (n : Nat) : aG := ⟨(SN [0] MC .nil), [SY [0] hC .nil], fun d => qeb n d.1 d.2⟩
theorem qeb_ok (n : Nat) : aM Tryz.prog 89 (qeb_E n) :=
 aM.bS n zz Tryz.f89 {} [] .e .e (by kernel_rfl) (by kernel_rfl) fun _ => by kernel_rfl
def qdw_E (n : Nat) : aG := ⟨(SN [0, 1] (u2 Mu Mu) .nil), [SY [0] hC .nil], fun d => qdw n d.1.1 d.1.2 d.2.1 d.2.2⟩
theorem qdw_ok (n : Nat) : aM Tryz.prog 88 (qdw_E n) :=
 aM.bS n zz Tryz.f88 {} [] (.k (qeb_ok n) .e) .e (by kernel_rfl) (by kernel_rfl) fun _ => by kernel_rfl
def qct_E (n : Nat) : aG := ⟨(SN [0, 1, 2, 3] (u4 J0 hA hA hM) .nil), [SY [0] (u1 (.tup (u3 hS NT hA))) .nil], fun d => qct n d.1.1 d.1.2.1 d.1.2.2.1 d.1.2.2.2.1 d.1.2.2.2.2 d.2.1 d.2.2.1 d.2.2.2⟩
def qct_ls (n : Nat) : List (Nat × aK) := [(0, ⟨[SN [2, 3, 11, 12, 13, 14, 16, 17] (u8 hA hM hW hZ hM hS hA hA) QC], [SY [8, 9, 10] (u3 hS NT hA) QC, SX 0 [2, 3, 11, 12, 14, 16] (u6 hA hM hW hZ hS hA) QC], qct_W0 n⟩)]
theorem qct_ok (n : Nat) : aM Tryz.prog 46 (qct_E n) :=
 aM.bS n zz Tryz.f46 { live := [(0, [2, 3, 11, 12, 13, 14, 16, 17])], boxed := [(12, 0), (12, 4)] } (qct_ls n) (.k (qcs_ok n) (.k (qdw_ok n) .e)) (.k (fun _ => rfl) (fun _ => by kernel_rfl) .e) (by kernel_rfl) (by kernel_rfl) fun _ => by kernel_rfl
def qbx_E (n : Nat) : aG := ⟨(SN [0, 1] (u2 Mu Mu) .nil), [SY [0] MC .nil], fun d => qbx n d.1.1 d.1.2 d.2.1 d.2.2⟩
theorem qbx_ok (n : Nat) : aM Tryz.prog 47 (qbx_E n) :=
 aM.bS n zz Tryz.f47 {} [] (.k (qdw_ok n) (.k (qeb_ok n) .e)) .e (by kernel_rfl) (by kernel_rfl) fun _ => by kernel_rfl
def qbs_E (n : Nat) : aG := ⟨(SN [0, 1] Pu .nil), [SY [0] hC .nil], fun d => qbs n d.1 d.2⟩
def qbs_ls (n : Nat) : List (Nat × aK) := [(0, ⟨[SN [0, 1, 5] (u3 hM hM hA) .nil], [SY [4] hC .nil, SX 0 [] .nil .nil], qbs_W0 n⟩)]
theorem qbs_ok (n : Nat) : aM Tryz.prog 48 (qbs_E n) :=
 aM.bS n zz Tryz.f48 { live := [(0, [0, 1, 5])] } (qbs_ls n) .e (.k (fun _ => rfl) (fun _ => by kernel_rfl) .e) (by kernel_rfl) (by kernel_rfl) fun _ => by kernel_rfl
def qdm_E (n : Nat) : aG := ⟨(SN [0] KX .nil), [SY [0] (u1 (.tup PT)) .nil], fun d => qdm n d.1 d.2.1 d.2.2.1 d.2.2.2.1 d.2.2.2.2⟩
def qdm_ls (n : Nat) : List (Nat × aK) := [(8, ⟨[SN [1, 4, 5, 6, 7, 8, 9, 10, 12, 13, 14, 15] (.cons hW (.cons hE (.cons hA (u9 hF .bool hA hS NT hA (.ptrI 2 0 0) hG hA)))) (u4 E9 PU Qp Qq)], [SX 8 [1, 4, 5, 6, 7, 8, 9, 10, 12, 13, 14] (.cons hW (.cons hE (u9 hA hF .bool hA hS NT hA (.ptrI 2 0 0) hG))) (u4 E9 PU Qp Qq)], qdm_W8 n⟩), (6, ⟨[SN [1, 4, 5, 6, 7, 8, 9, 10, 12] (u9 hW hE hA hF .bool hA hS NT hA) NV], [SY [2, 3] PT NV, SX 6 [1, 4, 5, 6, 7, 8] (u6 hW hE hA hF .bool hA) NV], qdm_W6 n⟩), (4, ⟨[SN [1, 4, 5, 6, 7, 8] (u6 hW hE hA hF .bool hA) NV], [SY [2, 3] PT NV, SX 4 [1, 4, 5, 6, 7] (u5 hW hE hA hF .bool) NV], qdm_W4 n⟩), (2, ⟨[SN [1, 4, 5, 6, 7] (u5 hW hE hA hF .bool) NV], [SY [2, 3] PT NV, SX 2 [1, 4, 5, 6] (u4 hW hE hA hF) NV], qdm_W2 n⟩), (0, ⟨[SN [1, 4, 5] (u3 hW hE hA) (u2 E9 PU)], [SY [2, 3] PT NV, SX 0 [4] (u1 hE) (u2 E9 PU)], qdm_W0 n⟩)]
theorem qdm_ok (n : Nat) : aM Tryz.prog 17 (qdm_E n) :=
 aM.bS n zz Tryz.f17 { live := [(0, [1, 4, 5]), (2, [1, 4, 5, 6, 7]), (4, [1, 4, 5, 6, 7, 8]), (6, [1, 4, 5, 6, 7, 8, 9, 10, 12]), (8, [1, 4, 5, 6, 7, 8, 9, 10, 12, 13, 14, 15])], boxed := [(1, 0), (5, 7), (25, 0), (25, 5), (32, 3)] } (qdm_ls n) (.k (qct_ok n) (.k (qbx_ok n) (.k (qbs_ok n) .e))) (.k (fun _ => rfl) (fun _ => by kernel_rfl) (.k (fun _ => rfl) (fun _ => by kernel_rfl) (.k (fun _ => rfl) (fun _ => by kernel_rfl) (.k (fun _ => rfl) (fun _ => by kernel_rfl) (.k (fun _ => rfl) (fun _ => by kernel_rfl) .e))))) (by kernel_rfl) (by kernel_rfl) fun _ => by kernel_rfl
def qcm_E (n : Nat) : aG := ⟨(SN [0, 1] (u2 J0 hA) .nil), [SY [0] (u1 QY) .nil], fun d => qcm n d.1.1 d.1.2.1 d.1.2.2.1 d.1.2.2.2.1 d.1.2.2.2.2 d.2⟩
theorem qcm_ok (n : Nat) : aM Tryz.prog 18 (qcm_E n) :=
 aM.bS n zz Tryz.f18 {} [] .e .e (by kernel_rfl) (by kernel_rfl) fun _ => by kernel_rfl
def qdg_E (n : Nat) : aG := ⟨(SN [0] (u1 hM) .nil), [SY [0] (u1 hM) .nil], fun d => qdg n d⟩
theorem qdg_ok (n : Nat) : aM Tryz.prog 204 (qdg_E n) :=
 aM.bS n zz Tryz.f204 {} [] .e .e (by kernel_rfl) (by kernel_rfl) fun _ => by kernel_rfl
def qeg_E (n : Nat) : aG := ⟨(SN [0, 1] (u2 hA hM) .nil), [SY [0] Qw .nil], fun d => qeg n d.1 d.2⟩
theorem qeg_ok (n : Nat) : aM Tryz.prog 193 (qeg_E n) :=
 aM.bS n zz Tryz.f193 {} [] (.k (qdg_ok n) .e) .e (by kernel_rfl) (by kernel_rfl) fun _ => by kernel_rfl
def qdc_E (n : Nat) : aG := ⟨(SN [0] hX .nil), [SY [0] Qw .nil], fun d => qdc n d⟩
theorem qdc_ok (n : Nat) : aM Tryz.prog 194 (qdc_E n) :=
 aM.bS n zz Tryz.f194 {} [] (.k (qdg_ok n) .e) .e (by kernel_rfl) (by kernel_rfl) fun _ => by kernel_rfl
def qcx_E (n : Nat) : aG := ⟨(SN [0, 1] (u2 Pj hA) .nil), [SY [0] MC .nil], fun d => qcx n d.1.1 d.1.2.1 d.1.2.2.1 d.1.2.2.2.1 d.1.2.2.2.2 d.2⟩
theorem qcx_ok (n : Nat) : aM Tryz.prog 205 (qcx_E n) :=
 aM.bS n zz Tryz.f205 {} [] .e .e (by kernel_rfl) (by kernel_rfl) fun _ => by kernel_rfl
def qdi_E (n : Nat) : aG := ⟨(SN [0, 1, 2] QE .nil), [SY [0] (u1 (.agg Pu)) .nil], fun d => qdi n d.1.1 d.1.2.1 d.1.2.2.1 d.1.2.2.2.1 d.1.2.2.2.2 d.2.1.1 d.2.1.2.1 d.2.1.2.2.1 d.2.1.2.2.2.1 d.2.1.2.2.2.2 d.2.2.1 d.2.2.2.1 d.2.2.2.2⟩
theorem qdi_ok (n : Nat) : aM Tryz.prog 195 (qdi_E n) :=
 aM.bS n zz Tryz.f195 {} [] (.k (qdg_ok n) (.k (qcx_ok n) .e)) .e (by kernel_rfl) (by kernel_rfl) fun _ => by kernel_rfl
def qer_E (n : Nat) : aG := ⟨(SN [0, 1, 2, 3] (u4 J0 Pj O9 hM) .nil), [SY [0] Qw .nil], fun d => qer n d.1.1 d.1.2.1 d.1.2.2.1 d.1.2.2.2.1 d.1.2.2.2.2 d.2.1.1 d.2.1.2.1 d.2.1.2.2.1 d.2.1.2.2.2.1 d.2.1.2.2.2.2 d.2.2.1.1 d.2.2.1.2.1 d.2.2.1.2.2 d.2.2.2⟩
theorem qer_ok (n : Nat) : aM Tryz.prog 167 (qer_E n) :=
 aM.bS n zz Tryz.f167 {} [] (.k (qeg_ok n) (.k (qdc_ok n) (.k (qdi_ok n) .e))) .e (by kernel_rfl) (by kernel_rfl) fun _ => by kernel_rfl
def qeo_E (n : Nat) : aG := ⟨(SN [0] MC .nil), [SY [0] hC .nil], fun d => qeo n d.1 d.2⟩
theorem qeo_ok (n : Nat) : aM Tryz.prog 94 (qeo_E n) :=
 aM.bS n zz Tryz.f94 {} [] .e .e (by kernel_rfl) (by kernel_rfl) fun _ => by kernel_rfl
def qem_E (n : Nat) : aG := ⟨(SN [0, 1] (u2 Mu Mu) .nil), [SY [0] hC .nil], fun d => qem n d.1.1 d.1.2 d.2.1 d.2.2⟩
theorem qem_ok (n : Nat) : aM Tryz.prog 168 (qem_E n) :=
 aM.bS n zz Tryz.f168 {} [] (.k (qeo_ok n) .e) .e (by kernel_rfl) (by kernel_rfl) fun _ => by kernel_rfl
def qdu_E (n : Nat) : aG := ⟨(SN [0, 1] (u2 O9 hA) .nil), [SY [0] (u1 NT) .nil], fun d => qdu n d.1.1 d.1.2.1 d.1.2.2 d.2⟩
theorem qdu_ok (n : Nat) : aM Tryz.prog 169 (qdu_E n) :=
 aM.bS n zz Tryz.f169 {} [] .e .e (by kernel_rfl) (by kernel_rfl) fun _ => by kernel_rfl
def qea_E (n : Nat) : aG := ⟨(SN [0, 1] (u2 .nilS hA) .nil), [SY [0] (u1 (.ms 0 0)) PM, SY [0] (u1 .nilS) .nil], fun d => qea n d⟩
theorem qea_ok (n : Nat) : aM Tryz.prog 96 (qea_E n) :=
 aM.b n zz Tryz.f96 { boxed := [(0, 0), (1, 0), (3, 0), (3, 1), (3, 3), (3, 7), (4, 0), (5, 0), (5, 1), (5, 4), (5, 5), (5, 6), (5, 9), (6, 0), (6, 1)] } [] .e .e (by kernel_rfl) (by kernel_rfl) fun _ => by kernel_rfl
def qby_E (n : Nat) : aG := ⟨(SN [0] (u1 hI) .nil), [SY [0] (u1 (.ms 0 0)) PM, SY [0] (u1 hS) .nil], fun d => qby n d⟩
def qby_ls (n : Nat) : List (Nat × aK) := [(0, ⟨[SN [0, 3, 9, 10, 11] (u5 hI hA hI hA hA) .nil], [SX 0 [0, 3] (u2 hI hA) .nil], qby_W0 n⟩), (2, ⟨[SN [6, 25, 26, 27] (u4 (.ms 0 0) hI hA hA) PM, SN [6, 25, 26, 27] (u4 hD hI hA hA) PM, SN [6, 25, 26, 27] (u4 .nilS hI hA hA) .nil], [SX 2 [6] (u1 (.ms 0 0)) PM, SX 2 [6] LC PM, SX 2 [6] (u1 .nilS) .nil], qby_W2x1 n⟩)]
theorem qby_ok (n : Nat) : aM Tryz.prog 55 (qby_E n) :=
 aM.bS n zz Tryz.f55 { live := [(0, [0, 3, 9, 10, 11]), (2, [6, 25, 26, 27])], boxed := [(2, 0), (4, 2), (5, 0), (5, 1), (5, 4), (6, 0), (8, 1), (9, 0), (9, 2), (10, 0), (12, 2), (13, 0), (13, 1), (13, 2), (13, 3), (14, 1), (15, 0), (15, 1)], raw := [(9, 1)] } (qby_ls n) (.k (qea_ok n) .e) (.k (fun _ => rfl) (fun _ => by kernel_rfl) (.k (fun _ => rfl) (fun s => by rcases s with s | s | s <;> kernel_rfl) .e)) (by kernel_rfl) (by kernel_rfl) fun _ => by kernel_rfl
def qdz_E (n : Nat) : aG := ⟨(SN [0] (u1 hM) .nil), [SY [0] (u1 hM) .nil], fun d => qdz n d⟩
theorem qdz_ok (n : Nat) : aM Tryz.prog 170 (qdz_E n) :=
 aM.bS n zz Tryz.f170 {} [] .e .e (by kernel_rfl) (by kernel_rfl) fun _ => by kernel_rfl
def qei_E (n : Nat) : aG := ⟨(SN [0, 1, 2, 3] (u4 J0 hA hA hM) .nil), [SY [0] (u1 (.tup (u3 hM NT hA))) .nil], fun d => qei n d.1.1 d.1.2.1 d.1.2.2.1 d.1.2.2.2.1 d.1.2.2.2.2 d.2.1 d.2.2.1 d.2.2.2⟩
def qei_ls (n : Nat) : List (Nat × aK) := [(0, ⟨[SN [2, 3, 11, 12, 14, 55, 56, 57] (u8 hA hM hW hZ hA hM hA hA) QZ], [SY [8, 9, 10] (u3 hS NT hA) (u3 PK (.bcells 0 false 1 Pu) PI), SX 0 [2, 3, 11, 12, 14] (u5 hA hM hW hZ hA) QZ], qei_W0 n⟩)]
theorem qei_ok (n : Nat) : aM Tryz.prog 133 (qei_E n) :=
 aM.bS n zz Tryz.f133 { live := [(0, [2, 3, 11, 12, 14, 55, 56, 57])] } (qei_ls n) (.k (qer_ok n) (.k (qem_ok n) (.k (qdu_ok n) (.k (qby_ok n) (.k (qdz_ok n) .e))))) (.k (fun _ => rfl) (fun _ => by kernel_rfl) .e) (by kernel_rfl) (by kernel_rfl) fun _ => by kernel_rfl
def qam_E (n : Nat) : aG := ⟨(SN [0, 1, 2] (u3 hM hM (.fn 168 .nil .nil)) .nil), [SY [0] hC .nil], fun d => qam n d.1 d.2⟩
def qam_ls (n : Nat) : List (Nat × aK) := [(0, ⟨[SN [1, 2, 15, 16, 17] (u5 hM (.fn 168 .nil .nil) hM hA hA) .nil], [SY [6] hC (u2 PI PI), SX 0 [] .nil .nil], qam_W0 n⟩)]
theorem qam_ok (n : Nat) : aM Tryz.prog 171 (qam_E n) :=
 aM.bS n zz Tryz.f171 { live := [(0, [1, 2, 15, 16, 17])] } (qam_ls n) (.k (qem_ok n) .e) (.k (fun _ => rfl) (fun _ => by kernel_rfl) .e) (by kernel_rfl) (by kernel_rfl) fun _ => by kernel_rfl
def qbv_E (n : Nat) : aG := ⟨(SN [0, 1] Pu .nil), [SY [0] hC .nil], fun d => qbv n d.1 d.2⟩
theorem qbv_ok (n : Nat) : aM Tryz.prog 135 (qbv_E n) :=
 aM.bS n zz Tryz.f135 {} [] (.k (qam_ok n) .e) .e (by kernel_rfl) (by kernel_rfl) fun _ => by kernel_rfl
def qdd_E (n : Nat) : aG := ⟨(SN [0, 1, 2] (u3 hA hW hZ) OB), [SY [0] hC OB], fun d => qdd n d.1 d.2.1 d.2.2⟩
theorem qdd_ok (n : Nat) : aM Tryz.prog 134 (qdd_E n) :=
 aM.bS n zz Tryz.f134 {} [] (.k (qbv_ok n) .e) .e (by kernel_rfl) (by kernel_rfl) fun _ => by kernel_rfl
def qay_E (n : Nat) : aG := ⟨(SN [0, 1] QN OB), [SY [0] hX OB], fun d => qay n d.1 d.2.1 d.2.2⟩
def qay_ls (n : Nat) : List (Nat × aK) := [(0, ⟨[SN [0, 1, 7, 8] (u4 Q4 (.fn 134 .nil (u2 hW hZ)) hA hA) OB], [SY [4] hX OB, SX 0 [] .nil OB], qay_W0 n⟩)]
theorem qay_ok (n : Nat) : aM Tryz.prog 172 (qay_E n) :=
 aM.bS n zz Tryz.f172 { live := [(0, [0, 1, 7, 8])] } (qay_ls n) (.k (qdd_ok n) .e) (.k (fun _ => rfl) (fun _ => by kernel_rfl) .e) (by kernel_rfl) (by kernel_rfl) fun _ => by kernel_rfl
def qag_E (n : Nat) : aG := ⟨(SN [0, 1] QN OB), [SY [0] hC OB], fun d => qag n d.1 d.2.1 d.2.2⟩
theorem qag_ok (n : Nat) : aM Tryz.prog 136 (qag_E n) :=
 aM.bS n zz Tryz.f136 {} [] (.k (qay_ok n) .e) .e (by kernel_rfl) (by kernel_rfl) fun _ => by kernel_rfl
def qee_E (n : Nat) : aG := ⟨(SN [0, 1, 2, 3] (u4 J0 hA hA hV) .nil), [SY [0] hC .nil], fun d => qee n d.1.1 d.1.2.1 d.1.2.2.1 d.1.2.2.2.1 d.1.2.2.2.2 d.2.1 d.2.2.1 d.2.2.2⟩
theorem qee_ok (n : Nat) : aM Tryz.prog 90 (qee_E n) :=
 aM.bS n zz Tryz.f90 {} [] (.k (qei_ok n) (.k (qag_ok n) .e)) .e (by kernel_rfl) (by kernel_rfl) fun _ => by kernel_rfl
def qbq_E (n : Nat) : aG := ⟨(SN [0, 1] (u2 J0 hU) .nil), [SY [0] hC .nil], fun d => qbq n d.1.1 d.1.2.1 d.1.2.2.1 d.1.2.2.2.1 d.1.2.2.2.2 d.2⟩
def qbq_ls (n : Nat) : List (Nat × aK) := [(2, ⟨[SN [2, 5, 6, 19, 20, 21, 52, 53] (u8 hW hA hV hU hA hA hA hA) vS], [SY [4] hC vS, SX 2 [2, 19, 20, 21] (u4 hW hU hA hA) vS], qbq_W2 n⟩), (0, ⟨[SN [2, 19, 20, 21] (u4 hW hU hA hA) vS], [SY [4] hC vS, SX 0 [] .nil vS], qbq_W0 n⟩)]
theorem qbq_ok (n : Nat) : aM Tryz.prog 49 (qbq_E n) :=
 aM.bS n zz Tryz.f49 { live := [(0, [2, 19, 20, 21]), (2, [2, 5, 6, 19, 20, 21, 52, 53])] } (qbq_ls n) (.k (qef_ok n) (.k (qee_ok n) .e)) (.k (fun _ => rfl) (fun _ => by kernel_rfl) (.k (fun _ => rfl) (fun _ => by kernel_rfl) .e)) (by kernel_rfl) (by kernel_rfl) fun _ => by kernel_rfl
def qn_E (n : Nat) : aG := ⟨(SN [0] (u1 (.agg (u3 hA hB .bool))) .nil), [SY [0] hC .nil], fun d => qn n d.1 d.2.1 d.2.2⟩
theorem qn_ok (n : Nat) : aM Tryz.prog 137 (qn_E n) :=
 aM.bS n zz Tryz.f137 {} [] .e .e (by kernel_rfl) (by kernel_rfl) fun _ => by kernel_rfl
def qw_E (n : Nat) : aG := ⟨(SN [0, 1] (u2 hR (.fn 137 .nil .nil)) .nil), [SY [0] hX .nil], fun d => qw n d⟩
def qw_ls (n : Nat) : List (Nat × aK) := [(0, ⟨[SN [0, 1, 7, 8] (u4 hR (.fn 137 .nil .nil) hA hA) .nil], [SY [4] hX .nil, SX 0 [] .nil .nil], qw_W0 n⟩)]
theorem qw_ok (n : Nat) : aM Tryz.prog 173 (qw_E n) :=
 aM.bS n zz Tryz.f173 { live := [(0, [0, 1, 7, 8])] } (qw_ls n) (.k (qn_ok n) .e) (.k (fun _ => rfl) (fun _ => by kernel_rfl) .e) (by kernel_rfl) (by kernel_rfl) fun _ => by kernel_rfl
def qh_E (n : Nat) : aG := ⟨(SN [0, 1] (u2 hR (.fn 137 .nil .nil)) .nil), [SY [0] hC .nil], fun d => qh n d⟩
theorem qh_ok (n : Nat) : aM Tryz.prog 138 (qh_E n) :=
 aM.bS n zz Tryz.f138 {} [] (.k (qw_ok n) .e) .e (by kernel_rfl) (by kernel_rfl) fun _ => by kernel_rfl
def qah_E (n : Nat) : aG := ⟨(SN [0, 1, 2] (u3 hW hB Mu) E7), [SY [0] hC E7], fun d => qah n d.1.1 d.1.2.1 d.1.2.2 d.2⟩
theorem qah_ok (n : Nat) : aM Tryz.prog 176 (qah_E n) :=
 aM.bS n zz Tryz.f176 {} [] .e .e (by kernel_rfl) (by kernel_rfl) fun _ => by kernel_rfl
def qv_E (n : Nat) : aG := ⟨(SN [0, 1, 2] (u3 A5 hM (.fn 176 A7 .nil)) E7), [SY [0] hC E7], fun d => qv n d.1.1 d.1.2 d.2⟩
def qv_ls (n : Nat) : List (Nat × aK) := [(0, ⟨[SN [1, 2, 15, 16, 17] (u5 hM (.fn 176 A7 .nil) A5 hA hA) E7], [SY [6] hC (u2 Qm PI), SX 0 [] .nil E7], qv_W0 n⟩)]
theorem qv_ok (n : Nat) : aM Tryz.prog 175 (qv_E n) :=
 aM.bS n zz Tryz.f175 { live := [(0, [1, 2, 15, 16, 17])] } (qv_ls n) (.k (qah_ok n) .e) (.k (fun _ => rfl) (fun _ => by kernel_rfl) .e) (by kernel_rfl) (by kernel_rfl) fun _ => by kernel_rfl
def qz_E (n : Nat) : aG := ⟨(SN [0, 1, 2] (u3 hW A5 hM) E7), [SY [0] hC E7], fun d => qz n d.1.1 d.1.2 d.2⟩
theorem qz_ok (n : Nat) : aM Tryz.prog 143 (qz_E n) :=
 aM.bS n zz Tryz.f143 {} [] (.k (qv_ok n) .e) .e (by kernel_rfl) (by kernel_rfl) fun _ => by kernel_rfl
def qai_E (n : Nat) : aG := ⟨(SN [0, 1] (u2 hW PN) E7), [SY [0] hC E7], fun d => qai n d.1.1 d.1.2.1 d.1.2.2.1 d.1.2.2.2 d.2⟩
theorem qai_ok (n : Nat) : aM Tryz.prog 141 (qai_E n) :=
 aM.bS n zz Tryz.f141 {} [] (.k (qz_ok n) .e) .e (by kernel_rfl) (by kernel_rfl) fun _ => by kernel_rfl
def qj_E (n : Nat) : aG := ⟨(SN [0, 1] (u2 PN hW) N3), [SY [0] hC N3], fun d => qj n d.1.1 d.1.2.1 d.1.2.2.1 d.1.2.2.2 d.2⟩
theorem qj_ok (n : Nat) : aM Tryz.prog 140 (qj_E n) :=
 aM.bS n zz Tryz.f140 {} [] (.k (qai_ok n) .e) .e (by kernel_rfl) (by kernel_rfl) fun _ => by kernel_rfl
def qaz_E (n : Nat) : aG := ⟨(SN [0, 1] (u2 hQ (.fn 140 .nil A7)) N3), [SY [0] hX N3], fun d => qaz n d.1 d.2⟩
def qaz_ls (n : Nat) : List (Nat × aK) := [(0, ⟨[SN [0, 1, 7, 8] (u4 hQ (.fn 140 .nil A7) hA hA) N3], [SY [4] hX N3, SX 0 [] .nil N3], qaz_W0 n⟩)]
theorem qaz_ok (n : Nat) : aM Tryz.prog 174 (qaz_E n) :=
 aM.bS n zz Tryz.f174 { live := [(0, [0, 1, 7, 8])] } (qaz_ls n) (.k (qj_ok n) .e) (.k (fun _ => rfl) (fun _ => by kernel_rfl) .e) (by kernel_rfl) (by kernel_rfl) fun _ => by kernel_rfl
def qaf_E (n : Nat) : aG := ⟨(SN [0, 1] (u2 hQ (.fn 140 .nil A7)) N3), [SY [0] hC N3], fun d => qaf n d.1 d.2⟩
theorem qaf_ok (n : Nat) : aM Tryz.prog 139 (qaf_E n) :=
 aM.bS n zz Tryz.f139 {} [] (.k (qaz_ok n) .e) .e (by kernel_rfl) (by kernel_rfl) fun _ => by kernel_rfl
def qt_E (n : Nat) : aG := ⟨(SN [0] A7 E7), [SY [0] hC E7], fun d => qt n d⟩
theorem qt_ok (n : Nat) : aM Tryz.prog 91 (qt_E n) :=
 aM.bS n zz Tryz.f91 {} [] (.k (qh_ok n) (.k (qaf_ok n) .e)) .e (by kernel_rfl) (by kernel_rfl) fun _ => by kernel_rfl
def qas_E (n : Nat) : aG := ⟨(SN [0, 1] (u2 hW PO) E7), [SY [0] hC E7], fun d => qas n d.1.1 d.1.2.1 d.1.2.2.1 d.1.2.2.2 d.2⟩
theorem qas_ok (n : Nat) : aM Tryz.prog 142 (qas_E n) :=
 aM.bS n zz Tryz.f142 {} [] (.k (qby_ok n) (.k (qz_ok n) .e)) .e (by kernel_rfl) (by kernel_rfl) fun _ => by kernel_rfl
def qp_E (n : Nat) : aG := ⟨(SN [0, 1, 2] (u3 hW PO hA) E7), [SY [0] hC E7], fun d => qp n d.1.1.1 d.1.1.2.1 d.1.1.2.2.1 d.1.1.2.2.2 d.1.2 d.2⟩
theorem qp_ok (n : Nat) : aM Tryz.prog 177 (qp_E n) :=
 aM.bS n zz Tryz.f177 {} [] (.k (qz_ok n) .e) .e (by kernel_rfl) (by kernel_rfl) fun _ => by kernel_rfl
def qab_E (n : Nat) : aG := ⟨(SN [0, 1, 2] (u3 hW PO PO) E7), [SY [0] hC E7], fun d => qab n d.1.1.1 d.1.1.2.1 d.1.1.2.2.1 d.1.1.2.2.2 d.1.2.1 d.1.2.2.1 d.1.2.2.2.1 d.1.2.2.2.2 d.2⟩
theorem qab_ok (n : Nat) : aM Tryz.prog 144 (qab_E n) :=
 aM.bS n zz Tryz.f144 {} [] (.k (qp_ok n) .e) .e (by kernel_rfl) (by kernel_rfl) fun _ => by kernel_rfl
def qo_E (n : Nat) : aG := ⟨(SN [0] A7 E7), [SY [0] hC E7], fun d => qo n d⟩
def qo_ls (n : Nat) : List (Nat × aK) := [(0, ⟨[SN [0, 3, 11, 12, 13] (u5 hW hP hP hA hA) E7], [SY [2] hC (u2 Qm PS), SX 0 [] .nil E7], qo_W0 n⟩)]
theorem qo_ok (n : Nat) : aM Tryz.prog 92 (qo_E n) :=
 aM.bS n zz Tryz.f92 { live := [(0, [0, 3, 11, 12, 13])] } (qo_ls n) (.k (qas_ok n) (.k (qz_ok n) (.k (qab_ok n) .e))) (.k (fun _ => rfl) (fun _ => by kernel_rfl) .e) (by kernel_rfl) (by kernel_rfl) fun _ => by kernel_rfl
def qdn_E (n : Nat) : aG := ⟨(SN [0, 1, 2] Qh .nil), [SY [0] hC .nil], fun d => qdn n d.1.1 d.1.2.1 d.1.2.2.1 d.1.2.2.2.1 d.1.2.2.2.2 d.2.1 d.2.2⟩
theorem qdn_ok (n : Nat) : aM Tryz.prog 50 (qdn_E n) :=
 aM.bS n zz Tryz.f50 {} [] (.k (qt_ok n) (.k (qo_ok n) .e)) .e (by kernel_rfl) (by kernel_rfl) fun _ => by kernel_rfl
def Gz (n : Nat) : aG := ⟨(SN [0, 1, 2] Qh .nil), [SY [0] hC .nil], fun d => stateTyped n d.1.1 d.1.2.1 d.1.2.2.1 d.1.2.2.2.1 d.1.2.2.2.2 d.2.1 d.2.2⟩
theorem nW (n : Nat) : aM Tryz.prog 19 (Gz n) :=
 aM.bS n zz Tryz.f19 {} [] (.k (qbq_ok n) (.k (qdn_ok n) .e)) .e (by kernel_rfl) (by kernel_rfl) fun _ => by kernel_rfl
def wA (n : Nat) : aG := ⟨(SN [0, 1] (u2 J0 hA) .nil), [SY [0] hC .nil], fun d => gG n d.1.1 d.1.2.1 d.1.2.2.1 d.1.2.2.2.1 d.1.2.2.2.2 d.2⟩
theorem s4 (n : Nat) : aM Tryz.prog 3 (wA n) :=
 aM.bS n zz Tryz.f3 {} [] (.k (qbw_ok n) (.k (qav_ok n) (.k (qca_ok n) (.k (qdk_ok n) (.k (qbe_ok n) (.k (qdm_ok n) (.k (qcm_ok n) (.k (nW n) .e)))))))) .e (by kernel_rfl) (by kernel_rfl) fun _ => by kernel_rfl
def qci_E (n : Nat) : aG := ⟨(SN [0] (u1 MX) .nil), [SY [0] hC .nil], fun d => qci n d.1 d.2.1 d.2.2.1 d.2.2.2.1 d.2.2.2.2.1 d.2.2.2.2.2.1 d.2.2.2.2.2.2⟩
def qci_ls (n : Nat) : List (Nat × aK) := [(0, ⟨[SN [1, 3, 4] PJ Pf], [SX 0 [1, 3] O0 Pf], qci_W0 n⟩), (2, ⟨[SN [1, 3, 5] PJ Pf], [SX 2 [3] hX Pf], qci_W2 n⟩)]
theorem qci_ok (n : Nat) : aM Tryz.prog 20 (qci_E n) :=
 aM.bS n zz Tryz.f20 { live := [(0, [1, 3, 4]), (2, [1, 3, 5])] } (qci_ls n) .e (.k (fun _ => rfl) (fun _ => by kernel_rfl) (.k (fun _ => rfl) (fun _ => by kernel_rfl) .e)) (by kernel_rfl) (by kernel_rfl) fun _ => by kernel_rfl
def qbr_E (n : Nat) : aG := ⟨(SN [0, 1] Pu .nil), [SY [0] hC .nil], fun d => qbr n d.1 d.2⟩
def qbr_ls (n : Nat) : List (Nat × aK) := [(0, ⟨[SN [0, 1, 5] (u3 hM hM hA) .nil], [SY [4] hC .nil, SX 0 [] .nil .nil], qbr_W0 n⟩)]
theorem qbr_ok (n : Nat) : aM Tryz.prog 51 (qbr_E n) :=
 aM.bS n zz Tryz.f51 { live := [(0, [0, 1, 5])] } (qbr_ls n) (.k (qdw_ok n) .e) (.k (fun _ => rfl) (fun _ => by kernel_rfl) .e) (by kernel_rfl) (by kernel_rfl) fun _ => by kernel_rfl
def qcc_E (n : Nat) : aG := ⟨(SN [0, 1] (u2 J0 hU) .nil), [SY [0] hC .nil], fun d => qcc n d.1.1 d.1.2.1 d.1.2.2.1 d.1.2.2.2.1 d.1.2.2.2.2 d.2⟩
def qcc_ls (n : Nat) : List (Nat × aK) := [(4, ⟨[SN [1, 2, 5, 6, 7, 8, 9, 11] (u8 hU hW hA hV hA hS NT hA) vS], [SY [4] hC vS, SX 4 [1, 2, 5, 6, 7] (u5 hU hW hA hV hA) vS], qcc_W4 n⟩), (2, ⟨[SN [1, 2, 5, 6, 7] (u5 hU hW hA hV hA) vS], [SY [4] hC vS, SX 2 [1, 2, 5] (u3 hU hW hA) vS], qcc_W2 n⟩), (0, ⟨[SN [1, 2, 5] (u3 hU hW hA) vS], [SY [4] hC vS, SX 0 [] .nil vS], qcc_W0 n⟩)]
theorem qcc_ok (n : Nat) : aM Tryz.prog 21 (qcc_E n) :=
 aM.bS n zz Tryz.f21 { live := [(0, [1, 2, 5]), (2, [1, 2, 5, 6, 7]), (4, [1, 2, 5, 6, 7, 8, 9, 11])] } (qcc_ls n) (.k (qdk_ok n) (.k (qct_ok n) (.k (qbr_ok n) .e))) (.k (fun _ => rfl) (fun _ => by kernel_rfl) (.k (fun _ => rfl) (fun _ => by kernel_rfl) (.k (fun _ => rfl) (fun _ => by kernel_rfl) .e))) (by kernel_rfl) (by kernel_rfl) fun _ => by kernel_rfl
def qds_E (n : Nat) : aG := ⟨(SN [0, 1, 2] (u3 MX hB Mu) .nil), [SY [0] hC .nil], fun d => qds n d.1 d.2.1 d.2.2.1 d.2.2.2⟩
theorem qds_ok (n : Nat) : aM Tryz.prog 93 (qds_E n) :=
 aM.bS n zz Tryz.f93 {} [] .e .e (by kernel_rfl) (by kernel_rfl) fun _ => by kernel_rfl
def qec_E (n : Nat) : aG := ⟨(SN [0, 1, 2] (u3 MX A5 hM) .nil), [SY [0] hC .nil], fun d => qec n d.1 d.2.1 d.2.2⟩
def qec_ls (n : Nat) : List (Nat × aK) := [(0, ⟨[SN [1, 2, 3, 7] (u4 A5 hM hW hA) Pf], [SY [6] hC Pf, SX 0 [] .nil Pf], qec_W0 n⟩)]
theorem qec_ok (n : Nat) : aM Tryz.prog 52 (qec_E n) :=
 aM.bS n zz Tryz.f52 { live := [(0, [1, 2, 3, 7])] } (qec_ls n) (.k (qds_ok n) .e) (.k (fun _ => rfl) (fun _ => by kernel_rfl) .e) (by kernel_rfl) (by kernel_rfl) fun _ => by kernel_rfl
def qbz_E (n : Nat) : aG := ⟨(SN [0, 1, 2, 3] (u4 J0 hU MX hA) .nil), [SY [0] (u1 (.tup (u2 hM .bool))) .nil], fun d => qbz n d.1.1 d.1.2.1 d.1.2.2.1 d.1.2.2.2.1 d.1.2.2.2.2 d.2.1 d.2.2.1 d.2.2.2⟩
theorem qbz_ok (n : Nat) : aM Tryz.prog 53 (qbz_E n) :=
 aM.bS n zz Tryz.f53 {} [] .e .e (by kernel_rfl) (by kernel_rfl) fun _ => by kernel_rfl
def qcf_E (n : Nat) : aG := ⟨(SN [0, 1, 2] Qh .nil), [SY [0] hC .nil], fun d => qcf n d.1.1 d.1.2.1 d.1.2.2.1 d.1.2.2.2.1 d.1.2.2.2.2 d.2.1 d.2.2⟩
def qcf_ls (n : Nat) : List (Nat × aK) := [(0, ⟨[SN [1, 3, 5, 7] Qn Pd], [SY [6] hC Pd, SX 0 [1, 3, 5] (u3 hU hW hZ) Pd], qcf_W0 n⟩), (2, ⟨[SN [1, 3, 5, 8] Qn Pd], [SY [6] hC (u3 E9 NS Qz), SX 2 [1, 3, 5] (u3 hU hW hZ) Pd], qcf_W2 n⟩), (5, ⟨[SN [1, 3, 5, 10] Qn Pd], [SY [6] hC Pd, SY [6] hC (u4 E9 NS PK (.bts 2 false false true yD)), SX 5 [] .nil Pd], qcf_W5 n⟩)]
theorem qcf_ok (n : Nat) : aM Tryz.prog 22 (qcf_E n) :=
 aM.bS n zz Tryz.f22 { live := [(0, [1, 3, 5, 7]), (2, [1, 3, 5, 8]), (5, [1, 3, 5, 10])], boxed := [(27, 7), (27, 10)] } (qcf_ls n) (.k (qec_ok n) (.k (qbz_ok n) .e)) (.k (fun _ => rfl) (fun _ => by kernel_rfl) (.k (fun _ => rfl) (fun _ => by kernel_rfl) (.k (fun _ => rfl) (fun _ => by kernel_rfl) .e))) (by kernel_rfl) (by kernel_rfl) fun _ => by kernel_rfl
def zB (n : Nat) : aG := ⟨(SN [0, 1, 2] Qh .nil), [SY [0] hC .nil], fun d => g9 n d.1.1 d.1.2.1 d.1.2.2.1 d.1.2.2.2.1 d.1.2.2.2.2 d.2.1 d.2.2⟩
theorem v3 (n : Nat) : aM Tryz.prog 4 (zB n) :=
 aM.bS n zz Tryz.f4 {} [] (.k (qbw_ok n) (.k (qav_ok n) (.k (qci_ok n) (.k (qcc_ok n) (.k (qcf_ok n) (.k (nW n) .e)))))) .e (by kernel_rfl) (by kernel_rfl) fun _ => by kernel_rfl
def AP (n : Nat) : aG := ⟨(SN [0, 1, 2, 3, 4] (u5 J0 hA hB hR (.int .u16)) .nil), [SY [0] hC .nil], fun d => i7 n d.1.1 d.1.2.1 d.1.2.2.1 d.1.2.2.2.1 d.1.2.2.2.2 d.2.1 d.2.2.1 d.2.2.2.1 d.2.2.2.2⟩
def z8 (n : Nat) : List (Nat × aK) := [(0, ⟨[SN [3, 5, 11, 13, 14, 15] (u6 hR hW hT hZ .bool hA) QW], [SX 0 [5, 11, 13, 14] (u4 hW hT hZ .bool) QW], cC n⟩)]
theorem zG (n : Nat) : aM Tryz.prog 5 (AP n) :=
 aM.bS n zz Tryz.f5 { live := [(0, [3, 5, 11, 13, 14, 15])] } (z8 n) (.k (qbw_ok n) (.k (qav_ok n) (.k (qdk_ok n) (.k (qdm_ok n) (.k (nW n) .e))))) (.k (fun _ => rfl) (fun _ => by kernel_rfl) .e) (by kernel_rfl) (by kernel_rfl) fun _ => by kernel_rfl
end
end Sx
