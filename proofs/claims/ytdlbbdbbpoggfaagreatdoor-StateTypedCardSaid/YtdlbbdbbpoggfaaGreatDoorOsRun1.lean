import Derived.Test.YtdlbbdbbpoggfaaGreatDoorProg
import Derived.Test.YtdlbbdbbpoggfaaGreatDoorLib33
import Derived.Test.YtdlbbdbbpoggfaaGreatDoorOsSh
open Go Go.Ab Go.Proofs
set_option linter.unusedVariables false
set_option maxRecDepth 20000
namespace Sx
noncomputable section
def F7 (f : Func) : Code := (match f.body with | some c => c | none => .skip)
def Mz (b : Nat) (c : Code) : Code := (match dW b (e8 c 0) with | some c => c | none => .skip)
abbrev yA : Ty := (.sl true (.cons (.int .i64) (.int .i64)))
abbrev yB : Ty := (.cons (.sl true (.cons (.int .i64) (.int .i64))) (.cons (.int .i64) (.cons (.int .i64) (.cons (.sl true (.cons (.int .i64) (.int .i64))) (.sl true (.cons (.int .i64) (.cons (.int .i64) (.int .i64))))))))
abbrev yC : Ty := (.cons (.sl true (.cons (.int .i64) (.int .i64))) (.cons (.int .i64) (.int .i64)))
abbrev yD : Ty := (.cons (.int .i64) (.int .i64))
abbrev yE : Ty := (.cons (.int .i64) (.cons (.int .i64) (.int .i64)))
abbrev yF : Ty := (.sl false (.int .u8))
abbrev yG : Ty := (.cons (.int .i64) (.cons (.int .i64) (.cons (.sl false (.int .u64)) (.sl false (.int .u64)))))
abbrev yH : Ty := (.cons (.int .i64) (.cons (.int .i64) (.cons (.sl false (.int .u64)) (.sl false (.int .u8)))))
abbrev yI : Ty := (.cons (.int .i64) (.cons (.int .u64) .bool))
abbrev yJ : Ty := (.sl true (.cons .bool (.sl true (.cons (.int .i64) (.int .i64)))))
abbrev yK : Ty := (.cons .bool (.sl true (.cons (.int .i64) (.int .i64))))
def qA : List (String × Nat × Int × Int) := [("chrysalis/flow.number", 1, 1, 0), ("chrysalis/flow.octets", 3, 2, 0), ("chrysalis/flow.words", 2, 3, 0), ("chrysalis/flow.refs", 4, 7, 0), ("chrysalis/flow.use", 0, 8, 0)]
def P5 : DH := [(1, 1, 0), (3, 2, 0), (2, 3, 0), (4, 7, 0), (0, 8, 0)]
instance gTab : cD := ⟨fun g => dW g P5⟩
abbrev xA : Ty := .int .i64
abbrev xB : Ty := .sl false .str
abbrev xC : Ty := .sl false (.int .u64)
abbrev xD : Ty := .sl false (.int .u8)
abbrev xE : Ty := .sl true (.cons xA xA)
abbrev xF : Ty := .cons xA (.cons (.int .u64) .bool)
abbrev xG : Ty := .sl false xE
abbrev xH : Ty := .sl true (.cons xA (.cons xA xA))
abbrev xI : Ty := .sl false (.sl true (.cons .bool xE))
abbrev xJ : Ty := .sl true (.cons xE (.cons xA xA))
abbrev xK : Ty := .cons xA (.cons xA (.cons xC xC))
abbrev xL : Ty := .cons xA (.cons xA (.cons xC xD))
abbrev xM : Ty := .cons xE (.cons xA (.cons xA (.cons xE xH)))
abbrev xN : Ty := .cons (.sl true xK) (.cons (.sl true xL) (.cons (.sl true xF) (.cons xA (.cons xA (.cons xA (.int .u64))))))
abbrev zi : Value := .int .i64 0
abbrev zl : Value := .slice none 0 0
abbrev zu : Value := .int .u64 0
abbrev zp : Value := .pointer none
abbrev zt : Value := .string (ByteArray.mk (List.toArray []))
def tA : TI := ⟨.int .i64, 1, 8, false, some xA, false, [zi]⟩
def tB : TI := ⟨.bool, 1, 1, false, some .bool, false, [.bool false]⟩
def tC : TI := ⟨.int .u8, 1, 1, false, some (.int .u8), false, [.int .u8 0]⟩
def tD : TI := ⟨.st [(0, 1, 2), (1, 1, 3), (2, 1, 4), (3, 1, 6)], 4, 24, true, some (.cons xA (.cons xA (.cons .bool (.int .u8)))), true, [zi, zi, .bool false, .int .u8 0]⟩
def tE : TI := ⟨.str, 1, 16, false, some .str, false, [zt]⟩
def tF : TI := ⟨.int .u64, 1, 8, false, some (.int .u64), false, [zu]⟩
def tG : TI := ⟨.st [(0, 1, 9), (1, 1, 12)], 2, 24, true, some (.cons .str (.int .u64)), false, [zt, zu]⟩
def tH : TI := ⟨.ptr, 1, 8, false, none, false, [zp]⟩
def tI : TI := ⟨.st [(0, 1, 17)], 1, 8, true, none, false, [zp]⟩
def tJ : TI := ⟨.int .i32, 1, 4, false, some (.int .i32), false, [.int .i32 0]⟩
def tK : TI := ⟨.sl 65, 1, 24, false, some xG, false, [zl]⟩
def tL : TI := ⟨.sl 70, 1, 24, false, some (.sl true xM), false, [zl]⟩
def tM : TI := ⟨.sl 87, 1, 24, false, some xJ, false, [zl]⟩
def tN : TI := ⟨.sl 34, 1, 24, false, some xC, false, [zl]⟩
def tO : TI := ⟨.sl 9, 1, 24, false, some xB, false, [zl]⟩
def tP : TI := ⟨.st [(0, 1, 22), (1, 1, 23), (2, 1, 24), (3, 1, 25), (4, 1, 26)], 5, 120, true, some (.cons xG (.cons (.sl true xM) (.cons xJ (.cons xC xB)))), false, [zl, zl, zl, zl, zl]⟩
def tQ : TI := ⟨.sl 72, 1, 24, false, some (.sl true xK), false, [zl]⟩
def tR : TI := ⟨.sl 54, 1, 24, false, some (.sl true xL), false, [zl]⟩
def tS : TI := ⟨.sl 51, 1, 24, false, some (.sl true xF), false, [zl]⟩
def tT : TI := ⟨.st [(0, 1, 31), (1, 1, 32), (2, 1, 33), (3, 1, 3), (4, 1, 3), (5, 1, 3), (6, 1, 34)], 7, 104, true, some xN, false, [zl, zl, zl, zi, zi, zi, zu]⟩
def tU : TI := ⟨.sl 90, 1, 24, false, some xI, false, [zl]⟩
def tV : TI := ⟨.int .u16, 1, 2, false, some (.int .u16), false, [.int .u16 0]⟩
def tW : TI := ⟨.st [(0, 1, 3), (1, 1, 34), (2, 1, 4)], 3, 24, true, some xF, true, [zi, zu, .bool false]⟩
def tX : TI := ⟨.sl 5, 1, 24, false, some xD, false, [zl]⟩
def tY : TI := ⟨.st [(0, 1, 3), (1, 1, 3), (2, 1, 25), (3, 1, 52)], 4, 64, true, some xL, false, [zi, zi, zl, zl]⟩
def tZ : TI := ⟨.st [(0, 1, 3), (1, 1, 3)], 2, 16, true, some (.cons xA xA), true, [zi, zi]⟩
def Rl : TI := ⟨.sl 64, 1, 24, false, some xE, false, [zl]⟩
def QQ : TI := ⟨.st [(0, 1, 3), (1, 1, 3), (2, 1, 3)], 3, 24, true, some (.cons xA (.cons xA xA)), true, [zi, zi, zi]⟩
def Rd : TI := ⟨.sl 67, 1, 24, false, some xH, false, [zl]⟩
def QP : TI := ⟨.st [(0, 1, 65), (1, 2, 64), (3, 1, 65), (4, 1, 68)], 5, 88, true, some xM, false, [zl, zi, zi, zl, zl]⟩
def QX : TI := ⟨.st [(0, 1, 3), (1, 1, 3), (2, 1, 25), (3, 1, 25)], 4, 64, true, some xK, false, [zi, zi, zl, zl]⟩
def Rk : TI := ⟨.int .u32, 1, 4, false, some (.int .u32), false, [.int .u32 0]⟩
def Q5 : TI := ⟨.st [(0, 1, 65), (1, 2, 64)], 3, 40, true, some (.cons xE (.cons xA xA)), false, [zl, zi, zi]⟩
def Ra : TI := ⟨.sl 92, 1, 24, false, some (.sl true (.cons .bool xE)), false, [zl]⟩
def QN : TI := ⟨.st [(0, 1, 4), (1, 1, 65)], 2, 32, true, some (.cons .bool xE), false, [.bool false, zl]⟩
def Re : TI := ⟨.sl 3, 1, 24, false, some (.sl false xA), false, [zl]⟩
def Qi : TI := ⟨.st [(0, 5, 28), (5, 1, 32), (6, 1, 32), (7, 1, 25)], 8, 192, true, some (.cons xG (.cons (.sl true xM) (.cons xJ (.cons xC (.cons xB (.cons (.sl true xL) (.cons (.sl true xL) xC))))))), false, [zl, zl, zl, zl, zl, zl, zl, zl]⟩
def Ri : TI := ⟨.sl 52, 1, 24, false, some (.sl false xD), false, [zl]⟩
def QO : TI := ⟨.st [(0, 5, 28), (5, 1, 41), (6, 7, 36)], 13, 248, true, some (.cons xG (.cons (.sl true xM) (.cons xJ (.cons xC (.cons xB (.cons xI xN)))))), false, [zl, zl, zl, zl, zl, zl, zl, zl, zl, zi, zi, zi, zu]⟩
def Qm : TI := ⟨.st [(0, 1, 52)], 1, 24, true, some xD, false, [zl]⟩
def Rb : TI := ⟨.arr 3 3, 3, 24, true, none, false, [zi, zi, zi]⟩
def QZ : TI := ⟨.st [(0, 1, 156), (1, 1, 4)], 2, 16, true, none, false, [zp, .bool false]⟩
def Q8 : TI := ⟨.st [(0, 1, 52), (1, 1, 4)], 2, 32, true, some (.cons xD .bool), false, [zl, .bool false]⟩
def QY : TI := ⟨.st [(0, 1, 65), (1, 1, 65)], 2, 48, true, some (.cons xE xE), false, [zl, zl]⟩
def Rg : TI := ⟨.arr 2 3, 2, 16, true, none, false, [zi, zi]⟩
def QV : TI := ⟨.st [(0, 1, 17), (1, 1, 17), (2, 1, 17), (3, 1, 9)], 4, 40, true, none, false, [zp, zp, zp, zt]⟩
def Q9 : TI := ⟨.arr 0 16, 0, 0, true, none, false, []⟩
def QW : TI := ⟨.st [(0, 0, 242)], 0, 0, true, none, false, []⟩
def Rj : TI := ⟨.other, 1, 8, false, none, false, [zp]⟩
def P7 : List (Nat × TI) := [(2, tA), (3, tA), (4, tB), (5, tC), (6, tC), (7, tD), (8, tD), (9, tE), (10, tE), (11, tE), (12, tF), (13, tG), (14, tG), (15, tH), (16, tH), (17, tH), (18, tI), (19, tI), (21, tJ), (22, tK), (23, tL), (24, tM), (25, tN), (26, tO), (27, tP), (28, tP), (31, tQ), (32, tR), (33, tS), (34, tF), (35, tT), (36, tT), (37, tA), (41, tU), (49, tV), (50, tW), (51, tW), (52, tX), (53, tY), (54, tY), (63, tZ), (64, tZ), (65, Rl), (66, QQ), (67, QQ), (68, Rd), (69, QP), (70, QP), (71, QX), (72, QX), (82, Rk), (86, Q5), (87, Q5), (90, Ra), (91, QN), (92, QN), (93, Re), (96, tH), (102, tH), (103, Qi), (104, Qi), (109, tH), (110, Qi), (111, Qi), (125, Ri), (141, tH), (142, QO), (143, QO), (147, tH), (148, Qm), (149, Qm), (150, Rb), (156, tH), (159, tH), (160, QZ), (161, QZ), (193, Q8), (194, Q8), (196, tF), (201, QY), (202, QY), (225, tH), (226, Qm), (227, Qm), (237, Rg), (240, QV), (241, QV), (242, Q9), (243, QW), (244, QW), (245, tC), (246, tC), (248, tH), (249, tJ), (250, tJ), (253, Rj)]
def tab : TypeId → Option TI := fun t => dW t P7
theorem Pr : cF Tryz.prog tab := (show cF Tryz.prog (fun t => dW t P7) from cF.of_list _ (by kernel_rfl))
theorem J8 : nI Tryz.prog = true := by kernel_rfl
theorem Ki : Tryz.prog.follows .mixedOrders = true := by kernel_rfl
theorem zz : QJ Tryz.prog tab := ⟨J8, Ki, Pr⟩
abbrev hA : Sh := .int .i64
abbrev hB : Sh := .int .u64
abbrev hC : Sh := u1 .bool
abbrev hD : Sh := .msw 0 0
abbrev hE : Sh := .msw 1 0
abbrev hF : Sh := .msw 2 0
abbrev hG : Sh := .msw 3 0
abbrev hH : Sh := .msw 4 0
abbrev hI : Sh := .sl true false yA
abbrev hJ : Sh := .sl true true yB
abbrev hK : Sh := .sl true true yC
abbrev hL : Sh := .sl true false .str
abbrev hM : Sh := .sl true true yD
abbrev hN : Sh := .sl true true yE
abbrev hO : Sh := .sl true false yF
abbrev hP : Sh := .sl true true yG
abbrev hQ : Sh := .sl true true yH
abbrev hR : Sh := .sl true true yI
abbrev hS : Sh := .sl false true yD
abbrev hT : Sh := .sl false false yJ
abbrev hU : Sh := .sl true false yJ
abbrev hV : Sh := .sl true true yK
abbrev hW : Sh := .ptr 0 0 0 0
abbrev hX : Sh := u1 hA
abbrev hY : Sh := u1 (.tup .nil)
abbrev hZ : Sh := .ptr 1 0 0 0
abbrev BP : Sh := .sl true false (.int .u64)
abbrev Qv : Sh := .sl false false (.int .u8)
abbrev Lg : Sh := u1 hD
abbrev Lh : Sh := .sl true false (.int .u8)
abbrev NV : Sh := .sl false false (.int .i64)
abbrev PZ : Sh := .bts 0 false false false yJ
abbrev Qz : Sh := .bts 0 false false true yK
abbrev QE : Sh := .bts 0 false false true yD
abbrev Q3 : Sh := .sl true false (.int .i64)
abbrev BC : Sh := u1 hW
abbrev wE : Sh := .bts 0 false false false (.int .u8)
abbrev KD : Sh := u1 Qv
abbrev Q7 : Sh := u1 (.bts 0 false false true yG)
abbrev QL : Sh := u1 (.bts 0 false true true yG)
abbrev Q0 : Sh := u1 (.bts 0 false false true yH)
abbrev QM : Sh := u1 (.bts 0 false true true yH)
abbrev PK : Sh := u1 QE
abbrev P0 : Sh := u2 hT .bool
abbrev Jd : Sh := u1 wE
abbrev Mv : Sh := .agg (u2 hA hA)
abbrev PW : Sh := u2 Qv .bool
abbrev Om : Sh := u2 hW hA
abbrev qL : Sh := u1 (.bcells 0 false 1 hX)
abbrev PC : Sh := u2 hM hM
abbrev PL : Sh := .bcells 0 false 1 (u2 hA hA)
abbrev Ny : Sh := u1 Mv
abbrev Pa : Sh := .agg (u3 hA hA hA)
abbrev PO : Sh := u3 hW hA hA
abbrev Qq : Sh := u4 hW hJ hA hA
abbrev Gv : Sh := u2 (.bcells 0 false 1 (u1 hE)) wE
abbrev Qt : Sh := u1 (.tup (u2 (.agg PC) .bool))
abbrev QD : Sh := u4 hU hW hZ hA
abbrev QK : Sh := u2 hN (.fn 123 .nil (u2 hW hZ))
abbrev PI : Sh := .agg (u4 hA hA BP Lh)
abbrev PN : Sh := .agg (u4 hA hA BP BP)
abbrev Oq : Sh := u2 (.bcells 0 false 1 (u1 hV)) (.bcells 0 false 1 (u1 hM))
abbrev Q6 : Sh := u2 Q3 (.fn 134 .nil (u2 hW hZ))
abbrev Pz : Sh := .agg (u5 hM hA hA hM hN)
abbrev PU : Sh := .bcells 0 false 1 (u4 hA hA BP BP)
abbrev Qx : Sh := .bcells 0 false 1 (u4 hA hA BP Lh)
abbrev QT : Sh := .agg (u7 (.sl false true yG) .nilS .nilS hA hA hA hB)
abbrev PJ : Sh := .bcells 0 false 1 (u5 hM hA hA hM hN)
abbrev JJ : Sh := .agg (u5 hI hJ hK BP hL)
abbrev K1 : Sh := u1 JJ
abbrev Fa : Sh := .bcells 0 false 1 (u5 hI hJ hK BP hL)
abbrev NO : Sh := .agg (u7 hP hQ hR hA hA hA hB)
abbrev vA : Sh := u1 Fa
abbrev NR : Sh := .bcells 0 false 1 (u7 hP hQ hR hA hA hA hB)
abbrev Ps : Sh := u1 NR
abbrev Q1 : Sh := u2 PJ (.bcells 0 false 1 PC)
abbrev QI : Sh := u2 PJ (.bcells 0 false 1 (u3 hA hA hA))
abbrev NS : Sh := u3 Fa PZ Qz
abbrev HM : Sh := u2 Fa PJ
abbrev Q2 : Sh := u2 Fa (.bcells 0 false 1 (u7 .nilS .nilS hR hA hA hA hB))
abbrev Qg : Sh := .bcells 0 false 1 (.cons hI (.cons hJ (.cons hK (.cons BP (u9 hL hU hP hQ hR hA hA hA hB)))))
abbrev E7 : Sh := u1 Qg
abbrev O9 : Sh := u2 Fa NR
abbrev Qk : Sh := u3 JJ hU NO
abbrev QF : Sh := u3 JJ Pz Pa
abbrev Q4 : Sh := u6 Fa wE wE wE wE wE
abbrev Ql : Sh := u4 Fa wE wE PJ
abbrev O5 : Sh := u2 (.bcells 0 false 1 (u1 hZ)) Qg
def qcg_E (n : Nat) : aG := ⟨(SN [0] K1 .nil), [SY [0] hC .nil], fun d => qcg n d.1 d.2.1 d.2.2.1 d.2.2.2.1 d.2.2.2.2⟩
def qcg_ls (n : Nat) : List (Nat × aL) := [(0, ⟨[SN [1, 3, 4] PO vA], [SX 0 [1, 3] Om vA], qcg_W0 n⟩), (2, ⟨[SN [1, 3, 5] PO vA], [SX 2 [1, 3] Om vA], qcg_W2 n⟩), (4, ⟨[SN [1, 3, 6] PO vA], [SX 4 [1, 3] Om vA], qcg_W4 n⟩), (6, ⟨[SN [1, 3, 7] PO vA], [SX 6 [3] hX vA], qcg_W6 n⟩)]
theorem qcg_ok (n : Nat) : aM Tryz.prog 12 (qcg_E n) :=
 aM.bS n zz Tryz.f12 { live := [(0, [1, 3, 4]), (2, [1, 3, 5]), (4, [1, 3, 6]), (6, [1, 3, 7])] } (qcg_ls n) .e (.k (fun _ => rfl) (fun _ => by kernel_rfl) (.k (fun _ => rfl) (fun _ => by kernel_rfl) (.k (fun _ => rfl) (fun _ => by kernel_rfl) (.k (fun _ => rfl) (fun _ => by kernel_rfl) .e)))) (by kernel_rfl) (by kernel_rfl) fun _ => by kernel_rfl
def qdw_E (n : Nat) : aG := ⟨(SN [0, 1] (u2 Mv hA) .nil), [SY [0] hC .nil], fun d => qdw n d.1.1 d.1.2 d.2⟩
theorem qdw_ok (n : Nat) : aM Tryz.prog 186 (qdw_E n) :=
 aM.bS n zz Tryz.f186 {} [] .e .e (by kernel_rfl) (by kernel_rfl) fun _ => by kernel_rfl
def qbg_E (n : Nat) : aG := ⟨(SN [0, 1] (u2 Mv hW) qL), [SY [0] hC qL], fun d => qbg n d.1.1 d.1.2 d.2⟩
theorem qbg_ok (n : Nat) : aM Tryz.prog 198 (qbg_E n) :=
 aM.bS n zz Tryz.f198 {} [] (.k (qdw_ok n) .e) .e (by kernel_rfl) (by kernel_rfl) fun _ => by kernel_rfl
def qap_E (n : Nat) : aG := ⟨(SN [0, 1] (u2 hM (.fn 198 .nil BC)) qL), [SY [0] hX qL], fun d => qap n d.1 d.2⟩
def qap_ls (n : Nat) : List (Nat × aL) := [(0, ⟨[SN [0, 1, 7, 8] (u4 hM (.fn 198 .nil BC) hA hA) qL], [SY [4] hX qL, SX 0 [] .nil qL], qap_W0 n⟩)]
theorem qap_ok (n : Nat) : aM Tryz.prog 165 (qap_E n) :=
 aM.bS n zz Tryz.f165 { live := [(0, [0, 1, 7, 8])] } (qap_ls n) (.k (qbg_ok n) .e) (.k (fun _ => rfl) (fun _ => by kernel_rfl) .e) (by kernel_rfl) (by kernel_rfl) fun _ => by kernel_rfl
def qs_E (n : Nat) : aG := ⟨(SN [0, 1] (u2 hM (.fn 198 .nil BC)) qL), [SY [0] hC qL], fun d => qs n d.1 d.2⟩
theorem qs_ok (n : Nat) : aM Tryz.prog 126 (qs_E n) :=
 aM.bS n zz Tryz.f126 {} [] (.k (qap_ok n) .e) .e (by kernel_rfl) (by kernel_rfl) fun _ => by kernel_rfl
def qcd_E (n : Nat) : aG := ⟨(SN [0, 1, 2] (u3 hM hA hA) .nil), [SY [0] hC .nil], fun d => qcd n d.1 d.2.1 d.2.2⟩
theorem qcd_ok (n : Nat) : aM Tryz.prog 181 (qcd_E n) :=
 aM.bS n zz Tryz.f181 {} [] (.k (qs_ok n) .e) .e (by kernel_rfl) (by kernel_rfl) fun _ => by kernel_rfl
def qbi_E (n : Nat) : aG := ⟨(SN [0, 1] (u2 hM hW) qL), [SY [0] hC qL], fun d => qbi n d.1 d.2⟩
theorem qbi_ok (n : Nat) : aM Tryz.prog 180 (qbi_E n) :=
 aM.bS n zz Tryz.f180 {} [] (.k (qcd_ok n) .e) .e (by kernel_rfl) (by kernel_rfl) fun _ => by kernel_rfl
def qw_E (n : Nat) : aG := ⟨(SN [0, 1] (u2 hI (.fn 180 .nil BC)) qL), [SY [0] hX qL], fun d => qw n d.1 d.2⟩
def qw_ls (n : Nat) : List (Nat × aL) := [(0, ⟨[SN [0, 1, 7, 8] (u4 hI (.fn 180 .nil BC) hA hA) qL], [SY [4] hX qL, SX 0 [] .nil qL], qw_W0 n⟩)]
theorem qw_ok (n : Nat) : aM Tryz.prog 197 (qw_E n) :=
 aM.bS n zz Tryz.f197 { live := [(0, [0, 1, 7, 8])] } (qw_ls n) (.k (qbi_ok n) .e) (.k (fun _ => rfl) (fun _ => by kernel_rfl) .e) (by kernel_rfl) (by kernel_rfl) fun _ => by kernel_rfl
def qg_E (n : Nat) : aG := ⟨(SN [0, 1] (u2 hI (.fn 180 .nil BC)) qL), [SY [0] hC qL], fun d => qg n d.1 d.2⟩
theorem qg_ok (n : Nat) : aM Tryz.prog 179 (qg_E n) :=
 aM.bS n zz Tryz.f179 {} [] (.k (qw_ok n) .e) .e (by kernel_rfl) (by kernel_rfl) fun _ => by kernel_rfl
def qee_E (n : Nat) : aG := ⟨(SN [0] hX .nil), [SY [0] hX .nil], fun d => qee n d⟩
theorem qee_ok (n : Nat) : aM Tryz.prog 202 (qee_E n) :=
 aM.bS n zz Tryz.f202 {} [] .e .e (by kernel_rfl) (by kernel_rfl) fun _ => by kernel_rfl
def qep_E (n : Nat) : aG := ⟨(SN [0, 1] (u2 hA .bool) .nil), [SY [0] hC .nil], fun d => qep n d.1 d.2⟩
theorem qep_ok (n : Nat) : aM Tryz.prog 203 (qep_E n) :=
 aM.bS n zz Tryz.f203 {} [] .e .e (by kernel_rfl) (by kernel_rfl) fun _ => by kernel_rfl
def qeq_E (n : Nat) : aG := ⟨(SN [0] (u1 hB) .nil), [SY [0] Lg Jd], fun d => qeq n d⟩
def qeq_ls (n : Nat) : List (Nat × aL) := [(0, ⟨[SN [0, 3] (u2 hB hD) Jd], [SX 0 [0, 3] (u2 hB hD) Jd], qeq_W0 n⟩)]
theorem qeq_ok (n : Nat) : aM Tryz.prog 145 (qeq_E n) :=
 aM.b n zz Tryz.f145 { live := [(0, [0, 3])], boxed := [(0, 0), (1, 0), (4, 5), (5, 4)] } (qeq_ls n) .e (.k (fun _ => rfl) (fun _ => by kernel_rfl) .e) (by kernel_rfl) (by kernel_rfl) fun _ => by kernel_rfl
def qek_E (n : Nat) : aG := ⟨(SN [0] (u1 Pa) .nil), [SY [0] KD .nil], fun d => qek n d.1 d.2.1 d.2.2⟩
def qek_ls (n : Nat) : List (Nat × aL) := [(0, ⟨[SN [4, 39, 40, 41] (u4 hD (.ms 1 0) hA hA) (u2 wE PL)], [SX 0 [4] Lg (u2 wE PL)], qek_W0 n⟩)]
theorem qek_ok (n : Nat) : aM Tryz.prog 192 (qek_E n) :=
 aM.bS n zz Tryz.f192 { live := [(0, [4, 39, 40, 41])], boxed := [(4, 3), (9, 4)] } (qek_ls n) (.k (qee_ok n) (.k (qep_ok n) (.k (qeq_ok n) .e))) (.k (fun _ => rfl) (fun _ => by kernel_rfl) .e) (by kernel_rfl) (by kernel_rfl) fun _ => by kernel_rfl
def qah_E (n : Nat) : aG := ⟨(SN [0] (u1 Pa) .nil), [SY [0] hC .nil], fun d => qah n d.1 d.2.1 d.2.2⟩
theorem qah_ok (n : Nat) : aM Tryz.prog 200 (qah_E n) :=
 aM.bS n zz Tryz.f200 {} [] (.k (qek_ok n) .e) .e (by kernel_rfl) (by kernel_rfl) fun _ => by kernel_rfl
def qak_E (n : Nat) : aG := ⟨(SN [0, 1] (u2 hN (.fn 200 .nil .nil)) .nil), [SY [0] hX .nil], fun d => qak n d⟩
def qak_ls (n : Nat) : List (Nat × aL) := [(0, ⟨[SN [0, 1, 7, 8] (u4 hN (.fn 200 .nil .nil) hA hA) .nil], [SY [4] hX .nil, SX 0 [] .nil .nil], qak_W0 n⟩)]
theorem qak_ok (n : Nat) : aM Tryz.prog 164 (qak_E n) :=
 aM.bS n zz Tryz.f164 { live := [(0, [0, 1, 7, 8])] } (qak_ls n) (.k (qah_ok n) .e) (.k (fun _ => rfl) (fun _ => by kernel_rfl) .e) (by kernel_rfl) (by kernel_rfl) fun _ => by kernel_rfl
def qm_E (n : Nat) : aG := ⟨(SN [0, 1] (u2 hN (.fn 200 .nil .nil)) .nil), [SY [0] hC .nil], fun d => qm n d⟩
theorem qm_ok (n : Nat) : aM Tryz.prog 125 (qm_E n) :=
 aM.bS n zz Tryz.f125 {} [] (.k (qak_ok n) .e) .e (by kernel_rfl) (by kernel_rfl) fun _ => by kernel_rfl
def qan_E (n : Nat) : aG := ⟨(SN [0, 1] (u2 Pz hA) .nil), [SY [0] hC .nil], fun d => qan n d.1.1 d.1.2.1 d.1.2.2.1 d.1.2.2.2.1 d.1.2.2.2.2 d.2⟩
theorem qan_ok (n : Nat) : aM Tryz.prog 184 (qan_E n) :=
 aM.bS n zz Tryz.f184 {} [] (.k (qcd_ok n) (.k (qdw_ok n) (.k (qm_ok n) .e))) .e (by kernel_rfl) (by kernel_rfl) fun _ => by kernel_rfl
def qbe_E (n : Nat) : aG := ⟨(SN [0, 1] (u2 Pz hW) qL), [SY [0] hC qL], fun d => qbe n d.1.1 d.1.2.1 d.1.2.2.1 d.1.2.2.2.1 d.1.2.2.2.2 d.2⟩
theorem qbe_ok (n : Nat) : aM Tryz.prog 183 (qbe_E n) :=
 aM.bS n zz Tryz.f183 {} [] (.k (qan_ok n) .e) .e (by kernel_rfl) (by kernel_rfl) fun _ => by kernel_rfl
def qao_E (n : Nat) : aG := ⟨(SN [0, 1] (u2 hJ (.fn 183 .nil BC)) qL), [SY [0] hX qL], fun d => qao n d.1 d.2⟩
def qao_ls (n : Nat) : List (Nat × aL) := [(0, ⟨[SN [0, 1, 7, 8] (u4 hJ (.fn 183 .nil BC) hA hA) qL], [SY [4] hX qL, SX 0 [] .nil qL], qao_W0 n⟩)]
theorem qao_ok (n : Nat) : aM Tryz.prog 199 (qao_E n) :=
 aM.bS n zz Tryz.f199 { live := [(0, [0, 1, 7, 8])] } (qao_ls n) (.k (qbe_ok n) .e) (.k (fun _ => rfl) (fun _ => by kernel_rfl) .e) (by kernel_rfl) (by kernel_rfl) fun _ => by kernel_rfl
def qt_E (n : Nat) : aG := ⟨(SN [0, 1] (u2 hJ (.fn 183 .nil BC)) qL), [SY [0] hC qL], fun d => qt n d.1 d.2⟩
theorem qt_ok (n : Nat) : aM Tryz.prog 182 (qt_E n) :=
 aM.bS n zz Tryz.f182 {} [] (.k (qao_ok n) .e) .e (by kernel_rfl) (by kernel_rfl) fun _ => by kernel_rfl
def qbn_E (n : Nat) : aG := ⟨(SN [0, 1] (u2 (.agg (u3 hM hA hA)) hW) qL), [SY [0] hC qL], fun d => qbn n d.1.1 d.1.2.1 d.1.2.2 d.2⟩
theorem qbn_ok (n : Nat) : aM Tryz.prog 185 (qbn_E n) :=
 aM.bS n zz Tryz.f185 {} [] (.k (qcd_ok n) (.k (qdw_ok n) .e)) .e (by kernel_rfl) (by kernel_rfl) fun _ => by kernel_rfl
def qaf_E (n : Nat) : aG := ⟨(SN [0, 1] (u2 hK (.fn 185 .nil BC)) qL), [SY [0] hX qL], fun d => qaf n d.1 d.2⟩
def qaf_ls (n : Nat) : List (Nat × aL) := [(0, ⟨[SN [0, 1, 7, 8] (u4 hK (.fn 185 .nil BC) hA hA) qL], [SY [4] hX qL, SX 0 [] .nil qL], qaf_W0 n⟩)]
theorem qaf_ok (n : Nat) : aM Tryz.prog 166 (qaf_E n) :=
 aM.bS n zz Tryz.f166 { live := [(0, [0, 1, 7, 8])] } (qaf_ls n) (.k (qbn_ok n) .e) (.k (fun _ => rfl) (fun _ => by kernel_rfl) .e) (by kernel_rfl) (by kernel_rfl) fun _ => by kernel_rfl
def qd_E (n : Nat) : aG := ⟨(SN [0, 1] (u2 hK (.fn 185 .nil BC)) qL), [SY [0] hC qL], fun d => qd n d.1 d.2⟩
theorem qd_ok (n : Nat) : aM Tryz.prog 131 (qd_E n) :=
 aM.bS n zz Tryz.f131 {} [] (.k (qaf_ok n) .e) .e (by kernel_rfl) (by kernel_rfl) fun _ => by kernel_rfl
def qbm_E (n : Nat) : aG := ⟨(SN [0] (u1 .str) .nil), [SY [0] hC .nil], fun d => qbm n d⟩
theorem qbm_ok (n : Nat) : aM Tryz.prog 188 (qbm_E n) :=
 aM.bS n zz Tryz.f188 {} [] .e .e (by kernel_rfl) (by kernel_rfl) fun _ => by kernel_rfl
def qaa_E (n : Nat) : aG := ⟨(SN [0, 1] (u2 hL (.fn 188 .nil .nil)) .nil), [SY [0] hX .nil], fun d => qaa n d⟩
def qaa_ls (n : Nat) : List (Nat × aL) := [(0, ⟨[SN [0, 1, 7, 8] (u4 hL (.fn 188 .nil .nil) hA hA) .nil], [SY [4] hX .nil, SX 0 [] .nil .nil], qaa_W0 n⟩)]
theorem qaa_ok (n : Nat) : aM Tryz.prog 201 (qaa_E n) :=
 aM.bS n zz Tryz.f201 { live := [(0, [0, 1, 7, 8])] } (qaa_ls n) (.k (qbm_ok n) .e) (.k (fun _ => rfl) (fun _ => by kernel_rfl) .e) (by kernel_rfl) (by kernel_rfl) fun _ => by kernel_rfl
def qf_E (n : Nat) : aG := ⟨(SN [0, 1] (u2 hL (.fn 188 .nil .nil)) .nil), [SY [0] hC .nil], fun d => qf n d⟩
theorem qf_ok (n : Nat) : aM Tryz.prog 187 (qf_E n) :=
 aM.bS n zz Tryz.f187 {} [] (.k (qaa_ok n) .e) .e (by kernel_rfl) (by kernel_rfl) fun _ => by kernel_rfl
def qbv_E (n : Nat) : aG := ⟨(SN [0] K1 .nil), [SY [0] hC .nil], fun d => qbv n d.1 d.2.1 d.2.2.1 d.2.2.2.1 d.2.2.2.2⟩
theorem qbv_ok (n : Nat) : aM Tryz.prog 154 (qbv_E n) :=
 aM.bS n zz Tryz.f154 {} [] (.k (qg_ok n) (.k (qt_ok n) (.k (qd_ok n) (.k (qf_ok n) .e)))) .e (by kernel_rfl) (by kernel_rfl) fun _ => by kernel_rfl
def qk_E (n : Nat) : aG := ⟨(SN [0, 1] Om (u1 (.bcells 0 false 1 (u1 .nilS)))), [SY [0] hY Gv], fun d => qk n d⟩
theorem qk_ok (n : Nat) : aM Tryz.prog 189 (qk_E n) :=
 aM.bS n zz Tryz.f189 { boxed := [(0, 8)] } [] (.k (qeq_ok n) .e) .e (by kernel_rfl) (by kernel_rfl) fun _ => by kernel_rfl
def qb_E (n : Nat) : aG := ⟨(SN [0, 1] Om Gv), [SY [0] hY Gv], fun d => qb n d.1 d.2⟩
theorem qb_ok (n : Nat) : aM Tryz.prog 189 (qb_E n) :=
 aM.bS n zz Tryz.f189 { boxed := [(0, 8)] } [] (.k (qeq_ok n) .e) .e (by kernel_rfl) (by kernel_rfl) fun _ => by kernel_rfl
def qen_E (n : Nat) : aG := ⟨(SN [0] Ny .nil), [SY [0] KD .nil], fun d => qen n d.1 d.2⟩
theorem qen_ok (n : Nat) : aM Tryz.prog 191 (qen_E n) :=
 aM.bS n zz Tryz.f191 { raw := [(1, 4)] } [] (.k (qeq_ok n) .e) .e (by kernel_rfl) (by kernel_rfl) fun _ => by kernel_rfl
def qp_E (n : Nat) : aG := ⟨(SN [0, 1] (u2 hW hM) Gv), [SY [0] hY Gv], fun d => qp n d.1 d.2⟩
def qp_ls (n : Nat) : List (Nat × aL) := [(0, ⟨[SN [0, 10, 11, 12] (u4 hW hM hA hA) Gv], [SX 0 [] .nil Gv], qp_W0 n⟩)]
theorem qp_ok (n : Nat) : aM Tryz.prog 190 (qp_E n) :=
 aM.bS n zz Tryz.f190 { live := [(0, [0, 10, 11, 12])], boxed := [(4, 7)] } (qp_ls n) (.k (qb_ok n) (.k (qen_ok n) .e)) (.k (fun _ => rfl) (fun _ => by kernel_rfl) .e) (by kernel_rfl) (by kernel_rfl) fun _ => by kernel_rfl
def qau_E (n : Nat) : aG := ⟨(SN [0] K1 .nil), [SY [0] KD .nil], fun d => qau n d.1 d.2.1 d.2.2.1 d.2.2.2.1 d.2.2.2.2⟩
def qau_ls (n : Nat) : List (Nat × aL) := [(0, ⟨[SN [3, 14, 15, 16] (u4 hW hI hA hA) Gv], [SX 0 [3] BC Gv], qau_W0 n⟩)]
theorem qau_ok (n : Nat) : aM Tryz.prog 156 (qau_E n) :=
 aM.bS n zz Tryz.f156 { live := [(0, [3, 14, 15, 16])] } (qau_ls n) (.k (qk_ok n) (.k (qp_ok n) .e)) (.k (fun _ => rfl) (fun _ => by kernel_rfl) .e) (by kernel_rfl) (by kernel_rfl) fun _ => by kernel_rfl
def qv_E (n : Nat) : aG := ⟨(SN [0] K1 .nil), [SY [0] KD .nil], fun d => qv n d.1 d.2.1 d.2.2.1 d.2.2.2.1 d.2.2.2.2⟩
def qv_ls (n : Nat) : List (Nat × aL) := [(2, ⟨[SN [3, 16, 17, 18, 47, 48, 49] (u7 hW hJ hA hA hN hA hA) Gv], [SX 2 [3, 16, 17, 18] Qq Gv], qv_W2 n⟩), (0, ⟨[SN [3, 16, 17, 18] Qq Gv], [SX 0 [3] BC Gv], qv_W0 n⟩)]
theorem qv_ok (n : Nat) : aM Tryz.prog 157 (qv_E n) :=
 aM.bS n zz Tryz.f157 { live := [(0, [3, 16, 17, 18]), (2, [3, 16, 17, 18, 47, 48, 49])], boxed := [(7, 8), (13, 7)] } (qv_ls n) (.k (qk_ok n) (.k (qb_ok n) (.k (qp_ok n) (.k (qen_ok n) (.k (qek_ok n) .e))))) (.k (fun _ => rfl) (fun _ => by kernel_rfl) (.k (fun _ => rfl) (fun _ => by kernel_rfl) .e)) (by kernel_rfl) (by kernel_rfl) fun _ => by kernel_rfl
def qat_E (n : Nat) : aG := ⟨(SN [0] K1 .nil), [SY [0] KD .nil], fun d => qat n d.1 d.2.1 d.2.2.1 d.2.2.2.1 d.2.2.2.2⟩
def qat_ls (n : Nat) : List (Nat × aL) := [(0, ⟨[SN [3, 14, 15, 16] (u4 hW hK hA hA) Gv], [SX 0 [3] BC Gv], qat_W0 n⟩)]
theorem qat_ok (n : Nat) : aM Tryz.prog 158 (qat_E n) :=
 aM.bS n zz Tryz.f158 { live := [(0, [3, 14, 15, 16])], boxed := [(7, 8)] } (qat_ls n) (.k (qk_ok n) (.k (qp_ok n) (.k (qen_ok n) .e))) (.k (fun _ => rfl) (fun _ => by kernel_rfl) .e) (by kernel_rfl) (by kernel_rfl) fun _ => by kernel_rfl
def qef_E (n : Nat) : aG := ⟨(SN [0, 1] (u2 hB hA) .nil), [SY [0] KD .nil], fun d => qef n d.1 d.2⟩
def qef_ls (n : Nat) : List (Nat × aL) := [(0, ⟨[SN [0, 5, 9, 10] (u4 hB hD hA hA) Jd], [SX 0 [5] Lg Jd], qef_W0 n⟩)]
theorem qef_ok (n : Nat) : aM Tryz.prog 97 (qef_E n) :=
 aM.bS n zz Tryz.f97 { live := [(0, [0, 5, 9, 10])], boxed := [(1, 0), (5, 7)] } (qef_ls n) .e (.k (fun _ => rfl) (fun _ => by kernel_rfl) .e) (by kernel_rfl) (by kernel_rfl) fun _ => by kernel_rfl
def qas_E (n : Nat) : aG := ⟨(SN [0] K1 .nil), [SY [0] KD .nil], fun d => qas n d.1 d.2.1 d.2.2.1 d.2.2.2.1 d.2.2.2.2⟩
def qas_ls (n : Nat) : List (Nat × aL) := [(0, ⟨[SN [3, 14, 15, 16] (u4 hW BP hA hA) Gv], [SX 0 [3] BC Gv], qas_W0 n⟩)]
theorem qas_ok (n : Nat) : aM Tryz.prog 159 (qas_E n) :=
 aM.bS n zz Tryz.f159 { live := [(0, [3, 14, 15, 16])], boxed := [(6, 7)] } (qas_ls n) (.k (qk_ok n) (.k (qef_ok n) .e)) (.k (fun _ => rfl) (fun _ => by kernel_rfl) .e) (by kernel_rfl) (by kernel_rfl) fun _ => by kernel_rfl
def qbo_E (n : Nat) : aG := ⟨(SN [0] K1 .nil), [SY [0] KD .nil], fun d => qbo n d.1 d.2.1 d.2.2.1 d.2.2.2.1 d.2.2.2.2⟩
def qbo_ls (n : Nat) : List (Nat × aL) := [(0, ⟨[SN [3, 14, 15, 16] (u4 hW hL hA hA) Gv], [SX 0 [3] BC Gv], qbo_W0 n⟩)]
theorem qbo_ok (n : Nat) : aM Tryz.prog 160 (qbo_E n) :=
 aM.bS n zz Tryz.f160 { live := [(0, [3, 14, 15, 16])], boxed := [(7, 6)] } (qbo_ls n) (.k (qk_ok n) (.k (qb_ok n) .e)) (.k (fun _ => rfl) (fun _ => by kernel_rfl) .e) (by kernel_rfl) (by kernel_rfl) fun _ => by kernel_rfl
def qdz_E (n : Nat) : aG := ⟨(SN [0] (u1 hO) .nil), [SY [0] KD .nil], fun d => qdz n d⟩
def qdz_ls (n : Nat) : List (Nat × aL) := [(0, ⟨[SN [3, 10, 11, 12] (u4 hD hO hA hA) Jd], [SX 0 [3] Lg Jd], qdz_W0 n⟩)]
theorem qdz_ok (n : Nat) : aM Tryz.prog 155 (qdz_E n) :=
 aM.bS n zz Tryz.f155 { live := [(0, [3, 10, 11, 12])], boxed := [(5, 5), (6, 2)], raw := [(1, 3)] } (qdz_ls n) (.k (qeq_ok n) .e) (.k (fun _ => rfl) (fun _ => by kernel_rfl) .e) (by kernel_rfl) (by kernel_rfl) fun _ => by kernel_rfl
def qba_E (n : Nat) : aG := ⟨(SN [0] K1 .nil), [SY [0] (u1 (.tup (u2 Qv hA))) .nil], fun d => qba n d.1 d.2.1 d.2.2.1 d.2.2.2.1 d.2.2.2.2⟩
theorem qba_ok (n : Nat) : aM Tryz.prog 115 (qba_E n) :=
 aM.bS n zz Tryz.f115 {} [] (.k (qbv_ok n) (.k (qau_ok n) (.k (qv_ok n) (.k (qat_ok n) (.k (qas_ok n) (.k (qbo_ok n) (.k (qdz_ok n) .e))))))) .e (by kernel_rfl) (by kernel_rfl) fun _ => by kernel_rfl
def qcr_E (n : Nat) : aG := ⟨(SN [0, 1] (u2 hA hA) .nil), [SY [0] hC .nil], fun d => qcr n d.1 d.2⟩
theorem qcr_ok (n : Nat) : aM Tryz.prog 163 (qcr_E n) :=
 aM.bS n zz Tryz.f163 {} [] .e .e (by kernel_rfl) (by kernel_rfl) fun _ => by kernel_rfl
def qdf_E (n : Nat) : aG := ⟨(SN [0, 1, 2] QF .nil), [SY [0] hC .nil], fun d => qdf n d.1.1 d.1.2.1 d.1.2.2.1 d.1.2.2.2.1 d.1.2.2.2.2 d.2.1.1 d.2.1.2.1 d.2.1.2.2.1 d.2.1.2.2.2.1 d.2.1.2.2.2.2 d.2.2.1 d.2.2.2.1 d.2.2.2.2⟩
theorem qdf_ok (n : Nat) : aM Tryz.prog 124 (qdf_E n) :=
 aM.bS n zz Tryz.f124 {} [] (.k (qcr_ok n) .e) .e (by kernel_rfl) (by kernel_rfl) fun _ => by kernel_rfl
def qcp_E (n : Nat) : aG := ⟨(SN [0, 1, 2] (u3 Pa hW hZ) HM), [SY [0] hC HM], fun d => qcp n d.1.1 d.1.2.1 d.1.2.2 d.2.1.1 d.2.1.2.1 d.2.1.2.2.1 d.2.1.2.2.2.1 d.2.1.2.2.2.2 d.2.2.1 d.2.2.2.1 d.2.2.2.2.1 d.2.2.2.2.2.1 d.2.2.2.2.2.2⟩
theorem qcp_ok (n : Nat) : aM Tryz.prog 123 (qcp_E n) :=
 aM.bS n zz Tryz.f123 {} [] (.k (qdf_ok n) .e) .e (by kernel_rfl) (by kernel_rfl) fun _ => by kernel_rfl
def qr_E (n : Nat) : aG := ⟨(SN [0, 1] QK HM), [SY [0] hX HM], fun d => qr n d.1 d.2.1.1 d.2.1.2.1 d.2.1.2.2.1 d.2.1.2.2.2.1 d.2.1.2.2.2.2 d.2.2.1 d.2.2.2.1 d.2.2.2.2.1 d.2.2.2.2.2.1 d.2.2.2.2.2.2⟩
def qr_ls (n : Nat) : List (Nat × aL) := [(0, ⟨[SN [0, 1, 7, 8] (u4 hN (.fn 123 .nil (u2 hW hZ)) hA hA) HM], [SY [4] hX HM, SX 0 [] .nil HM], qr_W0 n⟩)]
theorem qr_ok (n : Nat) : aM Tryz.prog 164 (qr_E n) :=
 aM.bS n zz Tryz.f164 { live := [(0, [0, 1, 7, 8])] } (qr_ls n) (.k (qcp_ok n) .e) (.k (fun _ => rfl) (fun _ => by kernel_rfl) .e) (by kernel_rfl) (by kernel_rfl) fun _ => by kernel_rfl
def qc_E (n : Nat) : aG := ⟨(SN [0, 1] QK HM), [SY [0] hC HM], fun d => qc n d.1 d.2.1.1 d.2.1.2.1 d.2.1.2.2.1 d.2.1.2.2.2.1 d.2.1.2.2.2.2 d.2.2.1 d.2.2.2.1 d.2.2.2.2.1 d.2.2.2.2.2.1 d.2.2.2.2.2.2⟩
theorem qc_ok (n : Nat) : aM Tryz.prog 125 (qc_E n) :=
 aM.bS n zz Tryz.f125 {} [] (.k (qr_ok n) .e) .e (by kernel_rfl) (by kernel_rfl) fun _ => by kernel_rfl
def qbp_E (n : Nat) : aG := ⟨(SN [0] Ny .nil), [SY [0] hC .nil], fun d => qbp n d.1 d.2⟩
theorem qbp_ok (n : Nat) : aM Tryz.prog 127 (qbp_E n) :=
 aM.bS n zz Tryz.f127 {} [] .e .e (by kernel_rfl) (by kernel_rfl) fun _ => by kernel_rfl
def qab_E (n : Nat) : aG := ⟨(SN [0, 1] (u2 hM (.fn 127 .nil .nil)) .nil), [SY [0] hX .nil], fun d => qab n d⟩
def qab_ls (n : Nat) : List (Nat × aL) := [(0, ⟨[SN [0, 1, 7, 8] (u4 hM (.fn 127 .nil .nil) hA hA) .nil], [SY [4] hX .nil, SX 0 [] .nil .nil], qab_W0 n⟩)]
theorem qab_ok (n : Nat) : aM Tryz.prog 165 (qab_E n) :=
 aM.bS n zz Tryz.f165 { live := [(0, [0, 1, 7, 8])] } (qab_ls n) (.k (qbp_ok n) .e) (.k (fun _ => rfl) (fun _ => by kernel_rfl) .e) (by kernel_rfl) (by kernel_rfl) fun _ => by kernel_rfl
def qe_E (n : Nat) : aG := ⟨(SN [0, 1] (u2 hM (.fn 127 .nil .nil)) .nil), [SY [0] hC .nil], fun d => qe n d⟩
theorem qe_ok (n : Nat) : aM Tryz.prog 126 (qe_E n) :=
 aM.bS n zz Tryz.f126 {} [] (.k (qab_ok n) .e) .e (by kernel_rfl) (by kernel_rfl) fun _ => by kernel_rfl
def qdt_E (n : Nat) : aG := ⟨(SN [0] Ny .nil), [SY [0] hC .nil], fun d => qdt n d.1 d.2⟩
theorem qdt_ok (n : Nat) : aM Tryz.prog 129 (qdt_E n) :=
 aM.bS n zz Tryz.f129 {} [] .e .e (by kernel_rfl) (by kernel_rfl) fun _ => by kernel_rfl
def qbb_E (n : Nat) : aG := ⟨(SN [0] Ny .nil), [SY [0] hC .nil], fun d => qbb n d.1 d.2⟩
theorem qbb_ok (n : Nat) : aM Tryz.prog 130 (qbb_E n) :=
 aM.bS n zz Tryz.f130 {} [] (.k (qdt_ok n) .e) .e (by kernel_rfl) (by kernel_rfl) fun _ => by kernel_rfl
def qag_E (n : Nat) : aG := ⟨(SN [0, 1] (u2 hM (.fn 130 .nil .nil)) .nil), [SY [0] hX .nil], fun d => qag n d⟩
def qag_ls (n : Nat) : List (Nat × aL) := [(0, ⟨[SN [0, 1, 7, 8] (u4 hM (.fn 130 .nil .nil) hA hA) .nil], [SY [4] hX .nil, SX 0 [] .nil .nil], qag_W0 n⟩)]
theorem qag_ok (n : Nat) : aM Tryz.prog 165 (qag_E n) :=
 aM.bS n zz Tryz.f165 { live := [(0, [0, 1, 7, 8])] } (qag_ls n) (.k (qbb_ok n) .e) (.k (fun _ => rfl) (fun _ => by kernel_rfl) .e) (by kernel_rfl) (by kernel_rfl) fun _ => by kernel_rfl
def qh_E (n : Nat) : aG := ⟨(SN [0, 1] (u2 hM (.fn 130 .nil .nil)) .nil), [SY [0] hC .nil], fun d => qh n d⟩
theorem qh_ok (n : Nat) : aM Tryz.prog 126 (qh_E n) :=
 aM.bS n zz Tryz.f126 {} [] (.k (qag_ok n) .e) .e (by kernel_rfl) (by kernel_rfl) fun _ => by kernel_rfl
def qcm_E (n : Nat) : aG := ⟨(SN [0] (u1 (.agg (u3 hM hA hA))) .nil), [SY [0] hC .nil], fun d => qcm n d.1 d.2.1 d.2.2⟩
theorem qcm_ok (n : Nat) : aM Tryz.prog 128 (qcm_E n) :=
 aM.bS n zz Tryz.f128 {} [] (.k (qdt_ok n) (.k (qh_ok n) .e)) .e (by kernel_rfl) (by kernel_rfl) fun _ => by kernel_rfl
def qj_E (n : Nat) : aG := ⟨(SN [0, 1] (u2 hK (.fn 128 .nil .nil)) .nil), [SY [0] hX .nil], fun d => qj n d⟩
def qj_ls (n : Nat) : List (Nat × aL) := [(0, ⟨[SN [0, 1, 7, 8] (u4 hK (.fn 128 .nil .nil) hA hA) .nil], [SY [4] hX .nil, SX 0 [] .nil .nil], qj_W0 n⟩)]
theorem qj_ok (n : Nat) : aM Tryz.prog 166 (qj_E n) :=
 aM.bS n zz Tryz.f166 { live := [(0, [0, 1, 7, 8])] } (qj_ls n) (.k (qcm_ok n) .e) (.k (fun _ => rfl) (fun _ => by kernel_rfl) .e) (by kernel_rfl) (by kernel_rfl) fun _ => by kernel_rfl
def qa_E (n : Nat) : aG := ⟨(SN [0, 1] (u2 hK (.fn 128 .nil .nil)) .nil), [SY [0] hC .nil], fun d => qa n d⟩
theorem qa_ok (n : Nat) : aM Tryz.prog 131 (qa_E n) :=
 aM.bS n zz Tryz.f131 {} [] (.k (qj_ok n) .e) .e (by kernel_rfl) (by kernel_rfl) fun _ => by kernel_rfl
def qdm_E (n : Nat) : aG := ⟨(SN [0] K1 .nil), [SY [0] hX .nil], fun d => qdm n d.1 d.2.1 d.2.2.1 d.2.2.2.1 d.2.2.2.2⟩
def qdm_ls (n : Nat) : List (Nat × aL) := [(0, ⟨[SN [1, 18, 19, 20] Qq vA], [SY [2] hX HM, SX 0 [1] BC vA], qdm_W0 n⟩)]
theorem qdm_ok (n : Nat) : aM Tryz.prog 84 (qdm_E n) :=
 aM.bS n zz Tryz.f84 { live := [(0, [1, 18, 19, 20])] } (qdm_ls n) (.k (qba_ok n) (.k (qc_ok n) (.k (qe_ok n) (.k (qa_ok n) .e)))) (.k (fun _ => rfl) (fun _ => by kernel_rfl) .e) (by kernel_rfl) (by kernel_rfl) fun _ => by kernel_rfl
def qeb_E (n : Nat) : aG := ⟨(SN [0] K1 .nil), [SY [0] hC .nil], fun d => qeb n d.1 d.2.1 d.2.2.1 d.2.2.2.1 d.2.2.2.2⟩
theorem qeb_ok (n : Nat) : aM Tryz.prog 43 (qeb_E n) :=
 aM.bS n zz Tryz.f43 {} [] (.k (qdm_ok n) .e) .e (by kernel_rfl) (by kernel_rfl) fun _ => by kernel_rfl
def qbw_E (n : Nat) : aG := ⟨(SN [0, 1] (u2 JJ hA) .nil), [SY [0] (u1 (.tup (u2 QT hA))) .nil], fun d => qbw n d.1.1 d.1.2.1 d.1.2.2.1 d.1.2.2.2.1 d.1.2.2.2.2 d.2⟩
theorem qbw_ok (n : Nat) : aM Tryz.prog 14 (qbw_E n) :=
 aM.bS n zz Tryz.f14 {} [] (.k (qeb_ok n) .e) .e (by kernel_rfl) (by kernel_rfl) fun _ => by kernel_rfl
def qbj_E (n : Nat) : aG := ⟨(SN [0] (u1 BP) .nil), [SY [0] (u1 (.sl false false (.int .u64))) .nil], fun d => qbj n d⟩
theorem qbj_ok (n : Nat) : aM Tryz.prog 121 (qbj_E n) :=
 aM.bS n zz Tryz.f121 { boxed := [(3, 0)] } [] .e .e (by kernel_rfl) (by kernel_rfl) fun _ => by kernel_rfl
def qck_E (n : Nat) : aG := ⟨(SN [0] (u1 BP) .nil), [SY [0] (u1 BP) .nil], fun d => qck n d⟩
theorem qck_ok (n : Nat) : aM Tryz.prog 120 (qck_E n) :=
 aM.bS n zz Tryz.f120 {} [] .e .e (by kernel_rfl) (by kernel_rfl) fun _ => by kernel_rfl
def qar_E (n : Nat) : aG := ⟨(SN [0] (u1 hP) .nil), [SY [0] (u1 hP) .nil], fun d => qar n d⟩
def qar_ls (n : Nat) : List (Nat × aL) := [(0, ⟨[SN [3, 6, 7, 8] (u4 hD hP hA hA) Q7, SN [3, 6, 7, 8] (u4 hD hP hA hA) QL], [SX 0 [3] Lg Q7, SX 0 [3] Lg QL], qar_W0 n⟩)]
theorem qar_ok (n : Nat) : aM Tryz.prog 80 (qar_E n) :=
 aM.bS n zz Tryz.f80 { live := [(0, [3, 6, 7, 8])], boxed := [(1, 0), (6, 3)] } (qar_ls n) (.k (qbj_ok n) (.k (qck_ok n) .e)) (.k (fun _ => rfl) (fun s => by rcases s with s | s <;> kernel_rfl) .e) (by kernel_rfl) (by kernel_rfl) fun _ => by kernel_rfl
def qcx_E (n : Nat) : aG := ⟨(SN [0] (u1 hP) .nil), [SY [0] (u1 hP) .nil], fun d => qcx n d⟩
theorem qcx_ok (n : Nat) : aM Tryz.prog 79 (qcx_E n) :=
 aM.bS n zz Tryz.f79 {} [] .e .e (by kernel_rfl) (by kernel_rfl) fun _ => by kernel_rfl
def qcy_E (n : Nat) : aG := ⟨(SN [0] (u1 Lh) .nil), [SY [0] KD .nil], fun d => qcy n d⟩
theorem qcy_ok (n : Nat) : aM Tryz.prog 162 (qcy_E n) :=
 aM.bS n zz Tryz.f162 { boxed := [(3, 0)] } [] .e .e (by kernel_rfl) (by kernel_rfl) fun _ => by kernel_rfl
def qej_E (n : Nat) : aG := ⟨(SN [0] (u1 Lh) .nil), [SY [0] (u1 Lh) .nil], fun d => qej n d⟩
theorem qej_ok (n : Nat) : aM Tryz.prog 161 (qej_E n) :=
 aM.bS n zz Tryz.f161 {} [] .e .e (by kernel_rfl) (by kernel_rfl) fun _ => by kernel_rfl
def qbt_E (n : Nat) : aG := ⟨(SN [0] (u1 PI) .nil), [SY [0] (u1 PI) .nil], fun d => qbt n d.1 d.2.1 d.2.2.1 d.2.2.2⟩
theorem qbt_ok (n : Nat) : aM Tryz.prog 122 (qbt_E n) :=
 aM.bS n zz Tryz.f122 {} [] (.k (qbj_ok n) (.k (qck_ok n) (.k (qcy_ok n) (.k (qej_ok n) .e)))) .e (by kernel_rfl) (by kernel_rfl) fun _ => by kernel_rfl
def qea_E (n : Nat) : aG := ⟨(SN [0] (u1 hQ) .nil), [SY [0] (u1 hQ) .nil], fun d => qea n d⟩
def qea_ls (n : Nat) : List (Nat × aL) := [(0, ⟨[SN [3, 6, 7, 8] (u4 hD hQ hA hA) Q0, SN [3, 6, 7, 8] (u4 hD hQ hA hA) QM], [SX 0 [3] Lg Q0, SX 0 [3] Lg QM], qea_W0 n⟩)]
theorem qea_ok (n : Nat) : aM Tryz.prog 81 (qea_E n) :=
 aM.bS n zz Tryz.f81 { live := [(0, [3, 6, 7, 8])], boxed := [(1, 0), (5, 4)] } (qea_ls n) (.k (qbt_ok n) .e) (.k (fun _ => rfl) (fun s => by rcases s with s | s <;> kernel_rfl) .e) (by kernel_rfl) (by kernel_rfl) fun _ => by kernel_rfl
def qem_E (n : Nat) : aG := ⟨(SN [0] (u1 hQ) .nil), [SY [0] (u1 hQ) .nil], fun d => qem n d⟩
theorem qem_ok (n : Nat) : aM Tryz.prog 57 (qem_E n) :=
 aM.bS n zz Tryz.f57 {} [] .e .e (by kernel_rfl) (by kernel_rfl) fun _ => by kernel_rfl
def qbh_E (n : Nat) : aG := ⟨(SN [0] (u1 hR) .nil), [SY [0] (u1 (.sl false true yI)) .nil], fun d => qbh n d⟩
theorem qbh_ok (n : Nat) : aM Tryz.prog 83 (qbh_E n) :=
 aM.bS n zz Tryz.f83 { boxed := [(3, 0)] } [] .e .e (by kernel_rfl) (by kernel_rfl) fun _ => by kernel_rfl
def qby_E (n : Nat) : aG := ⟨(SN [0] (u1 hR) .nil), [SY [0] (u1 hR) .nil], fun d => qby n d⟩
theorem qby_ok (n : Nat) : aM Tryz.prog 82 (qby_E n) :=
 aM.bS n zz Tryz.f82 {} [] .e .e (by kernel_rfl) (by kernel_rfl) fun _ => by kernel_rfl
def qcn_E (n : Nat) : aG := ⟨(SN [0] (u1 NO) .nil), [SY [0] (u1 NO) .nil], fun d => qcn n d.1 d.2.1 d.2.2.1 d.2.2.2.1 d.2.2.2.2.1 d.2.2.2.2.2.1 d.2.2.2.2.2.2⟩
theorem qcn_ok (n : Nat) : aM Tryz.prog 42 (qcn_E n) :=
 aM.bS n zz Tryz.f42 {} [] (.k (qar_ok n) (.k (qcx_ok n) (.k (qea_ok n) (.k (qem_ok n) (.k (qbh_ok n) (.k (qby_ok n) .e)))))) .e (by kernel_rfl) (by kernel_rfl) fun _ => by kernel_rfl
def qbf_E (n : Nat) : aG := ⟨(SN [0, 1] (u2 BP BP) .nil), [SY [0] hC .nil], fun d => qbf n d.1 d.2⟩
def qbf_ls (n : Nat) : List (Nat × aL) := [(0, ⟨[SN [0, 1, 12, 13] (u4 BP BP hA hA) .nil], [SY [4] hC .nil, SX 0 [] .nil .nil], qbf_W0 n⟩)]
theorem qbf_ok (n : Nat) : aM Tryz.prog 118 (qbf_E n) :=
 aM.bS n zz Tryz.f118 { live := [(0, [0, 1, 12, 13])] } (qbf_ls n) .e (.k (fun _ => rfl) (fun _ => by kernel_rfl) .e) (by kernel_rfl) (by kernel_rfl) fun _ => by kernel_rfl
def qbk_E (n : Nat) : aG := ⟨(SN [0, 1] (u2 PN PN) .nil), [SY [0] hC .nil], fun d => qbk n d.1.1 d.1.2.1 d.1.2.2.1 d.1.2.2.2 d.2.1 d.2.2.1 d.2.2.2.1 d.2.2.2.2⟩
theorem qbk_ok (n : Nat) : aM Tryz.prog 75 (qbk_E n) :=
 aM.bS n zz Tryz.f75 {} [] (.k (qbf_ok n) .e) .e (by kernel_rfl) (by kernel_rfl) fun _ => by kernel_rfl
def qal_E (n : Nat) : aG := ⟨(SN [0, 1, 2] (u3 hP hP (.fn 75 .nil .nil)) .nil), [SY [0] hC .nil], fun d => qal n d.1 d.2⟩
def qal_ls (n : Nat) : List (Nat × aL) := [(0, ⟨[SN [1, 2, 15, 16, 17] (u5 hP (.fn 75 .nil .nil) hP hA hA) .nil], [SY [6] hC (u2 PU PU), SX 0 [] .nil .nil], qal_W0 n⟩)]
theorem qal_ok (n : Nat) : aM Tryz.prog 74 (qal_E n) :=
 aM.bS n zz Tryz.f74 { live := [(0, [1, 2, 15, 16, 17])] } (qal_ls n) (.k (qbk_ok n) .e) (.k (fun _ => rfl) (fun _ => by kernel_rfl) .e) (by kernel_rfl) (by kernel_rfl) fun _ => by kernel_rfl
def qdd_E (n : Nat) : aG := ⟨(SN [0, 1] (u2 Lh Lh) .nil), [SY [0] hC .nil], fun d => qdd n d.1 d.2⟩
def qdd_ls (n : Nat) : List (Nat × aL) := [(0, ⟨[SN [0, 1, 12, 13] (u4 Lh Lh hA hA) .nil], [SY [4] hC .nil, SX 0 [] .nil .nil], qdd_W0 n⟩)]
theorem qdd_ok (n : Nat) : aM Tryz.prog 119 (qdd_E n) :=
 aM.bS n zz Tryz.f119 { live := [(0, [0, 1, 12, 13])] } (qdd_ls n) .e (.k (fun _ => rfl) (fun _ => by kernel_rfl) .e) (by kernel_rfl) (by kernel_rfl) fun _ => by kernel_rfl
def qcs_E (n : Nat) : aG := ⟨(SN [0, 1] (u2 PI PI) .nil), [SY [0] hC .nil], fun d => qcs n d.1.1 d.1.2.1 d.1.2.2.1 d.1.2.2.2 d.2.1 d.2.2.1 d.2.2.2.1 d.2.2.2.2⟩
theorem qcs_ok (n : Nat) : aM Tryz.prog 77 (qcs_E n) :=
 aM.bS n zz Tryz.f77 {} [] (.k (qbf_ok n) (.k (qdd_ok n) .e)) .e (by kernel_rfl) (by kernel_rfl) fun _ => by kernel_rfl
def qav_E (n : Nat) : aG := ⟨(SN [0, 1, 2] (u3 hQ hQ (.fn 77 .nil .nil)) .nil), [SY [0] hC .nil], fun d => qav n d.1 d.2⟩
def qav_ls (n : Nat) : List (Nat × aL) := [(0, ⟨[SN [1, 2, 15, 16, 17] (u5 hQ (.fn 77 .nil .nil) hQ hA hA) .nil], [SY [6] hC (u2 Qx Qx), SX 0 [] .nil .nil], qav_W0 n⟩)]
theorem qav_ok (n : Nat) : aM Tryz.prog 76 (qav_E n) :=
 aM.bS n zz Tryz.f76 { live := [(0, [1, 2, 15, 16, 17])] } (qav_ls n) (.k (qcs_ok n) .e) (.k (fun _ => rfl) (fun _ => by kernel_rfl) .e) (by kernel_rfl) (by kernel_rfl) fun _ => by kernel_rfl
def qbd_E (n : Nat) : aG := ⟨(SN [0, 1] (u2 hR hR) .nil), [SY [0] hC .nil], fun d => qbd n d.1 d.2⟩
def qbd_ls (n : Nat) : List (Nat × aL) := [(0, ⟨[SN [0, 1, 12, 13] (u4 hR hR hA hA) .nil], [SY [4] hC .nil, SX 0 [] .nil .nil], qbd_W0 n⟩)]
theorem qbd_ok (n : Nat) : aM Tryz.prog 78 (qbd_E n) :=
 aM.bS n zz Tryz.f78 { live := [(0, [0, 1, 12, 13])] } (qbd_ls n) .e (.k (fun _ => rfl) (fun _ => by kernel_rfl) .e) (by kernel_rfl) (by kernel_rfl) fun _ => by kernel_rfl
def qcv_E (n : Nat) : aG := ⟨(SN [0, 1] (u2 NO NO) .nil), [SY [0] hC .nil], fun d => qcv n d.1.1 d.1.2.1 d.1.2.2.1 d.1.2.2.2.1 d.1.2.2.2.2.1 d.1.2.2.2.2.2.1 d.1.2.2.2.2.2.2 d.2.1 d.2.2.1 d.2.2.2.1 d.2.2.2.2.1 d.2.2.2.2.2.1 d.2.2.2.2.2.2.1 d.2.2.2.2.2.2.2⟩
theorem qcv_ok (n : Nat) : aM Tryz.prog 41 (qcv_E n) :=
 aM.bS n zz Tryz.f41 {} [] (.k (qal_ok n) (.k (qav_ok n) (.k (qbd_ok n) .e))) .e (by kernel_rfl) (by kernel_rfl) fun _ => by kernel_rfl
def qaz_E (n : Nat) : aG := ⟨(SN [] .nil .nil), [SY [0] hC .nil], fun d => qaz n⟩
theorem qaz_ok (n : Nat) : aM Tryz.prog 13 (qaz_E n) :=
 aM.bS n zz Tryz.f13 {} [] (.k (qbw_ok n) (.k (qcn_ok n) (.k (qcv_ok n) .e))) .e (by kernel_rfl) (by kernel_rfl) fun _ => by kernel_rfl
def qeg_Ed (n d : Nat) : aG := ⟨(SN [0] (u1 hB) .nil), [SY [0] Lg Jd], qeg_D n d⟩
def qeg_E (n : Nat) : aG := ⟨(SN [0] (u1 hB) .nil), [SY [0] Lg Jd], fun d => qeg n d⟩
theorem qeg_okd (n d : Nat) : aM Tryz.prog 63 (qeg_Ed n d) :=
 Nat.rec (aM.none (by kernel_rfl) fun _ => rfl) (fun d ih => aM.b n zz Tryz.f63 { boxed := [(0, 0), (2, 2), (3, 4), (3, 8)] } [] (.k ih .e) .e (by kernel_rfl) (by kernel_rfl) fun _ => by kernel_rfl) d
theorem qeg_ok (n : Nat) : aM Tryz.prog 63 (qeg_E n) := qeg_okd n n
def qde_E (n : Nat) : aG := ⟨(SN [0, 1] (u2 Mv hA) .nil), [SY [0] hC .nil], fun d => qde n d.1.1 d.1.2 d.2⟩
theorem qde_ok (n : Nat) : aM Tryz.prog 65 (qde_E n) :=
 aM.bS n zz Tryz.f65 {} [] .e .e (by kernel_rfl) (by kernel_rfl) fun _ => by kernel_rfl
def qdj_E (n : Nat) : aG := ⟨(SN [0] Ny .nil), [SY [0] KD .nil], fun d => qdj n d.1 d.2⟩
theorem qdj_ok (n : Nat) : aM Tryz.prog 66 (qdj_E n) :=
 aM.bS n zz Tryz.f66 { raw := [(6, 2)] } [] (.k (qeg_ok n) .e) .e (by kernel_rfl) (by kernel_rfl) fun _ => by kernel_rfl
def qaw_E (n : Nat) : aG := ⟨(SN [0, 1, 2] (u3 hM hA hA) .nil), [SY [0] (u1 (.tup PW)) .nil], fun d => qaw n d.1 d.2.1 d.2.2⟩
def qaw_ls (n : Nat) : List (Nat × aL) := [(0, ⟨[SN [0, 1, 2, 8, 9] (u5 hM hA hA hD hA) Jd], [SY [6, 7] PW Jd, SX 0 [0, 2, 8] (u3 hM hA hD) Jd], qaw_W0 n⟩)]
theorem qaw_ok (n : Nat) : aM Tryz.prog 64 (qaw_E n) :=
 aM.bS n zz Tryz.f64 { live := [(0, [0, 1, 2, 8, 9])], boxed := [(7, 6)], raw := [(1, 3)] } (qaw_ls n) (.k (qeg_ok n) (.k (qde_ok n) (.k (qdj_ok n) .e))) (.k (fun _ => rfl) (fun _ => by kernel_rfl) .e) (by kernel_rfl) (by kernel_rfl) fun _ => by kernel_rfl
def qdh_E (n : Nat) : aG := ⟨(SN [0] hX .nil), [SY [0] hX .nil], fun d => qdh n d⟩
def qdh_ls (n : Nat) : List (Nat × aL) := [(0, ⟨[SN [0, 3, 4] (u3 hA NV hA) .nil], [SY [2] hX .nil, SX 0 [] .nil .nil], qdh_W0 n⟩)]
theorem qdh_ok (n : Nat) : aM Tryz.prog 117 (qdh_E n) :=
 aM.bS n zz Tryz.f117 { live := [(0, [0, 3, 4])] } (qdh_ls n) .e (.k (fun _ => rfl) (fun _ => by kernel_rfl) .e) (by kernel_rfl) (by kernel_rfl) fun _ => by kernel_rfl
def qbz_E (n : Nat) : aG := ⟨(SN [0] (u1 Pa) .nil), [SY [0] KD .nil], fun d => qbz n d.1 d.2.1 d.2.2⟩
theorem qbz_ok (n : Nat) : aM Tryz.prog 67 (qbz_E n) :=
 aM.bS n zz Tryz.f67 { boxed := [(4, 3), (6, 5), (8, 5)] } [] (.k (qdh_ok n) (.k (qeg_ok n) .e)) .e (by kernel_rfl) (by kernel_rfl) fun _ => by kernel_rfl
def qcf_E (n : Nat) : aG := ⟨(SN [0, 1] (u2 hB hA) .nil), [SY [0] KD .nil], fun d => qcf n d.1 d.2⟩
def qcf_ls (n : Nat) : List (Nat × aL) := [(0, ⟨[SN [0, 1, 5, 6] (u4 hB hA hD hA) Jd], [SX 0 [5] Lg Jd], qcf_W0 n⟩)]
theorem qcf_ok (n : Nat) : aM Tryz.prog 68 (qcf_E n) :=
 aM.bS n zz Tryz.f68 { live := [(0, [0, 1, 5, 6])], boxed := [(1, 0), (5, 5)] } (qcf_ls n) .e (.k (fun _ => rfl) (fun _ => by kernel_rfl) .e) (by kernel_rfl) (by kernel_rfl) fun _ => by kernel_rfl
def qdb_E (n : Nat) : aG := ⟨(SN [0] (u1 hO) .nil), [SY [0] KD .nil], fun d => qdb n d⟩
def qdb_ls (n : Nat) : List (Nat × aL) := [(0, ⟨[SN [0, 3, 4] (u3 hO hD hA) Jd], [SX 0 [3] Lg Jd], qdb_W0 n⟩)]
theorem qdb_ok (n : Nat) : aM Tryz.prog 69 (qdb_E n) :=
 aM.bS n zz Tryz.f69 { live := [(0, [0, 3, 4])], boxed := [(5, 8), (5, 13)], raw := [(1, 3)] } (qdb_ls n) (.k (qeg_ok n) .e) (.k (fun _ => rfl) (fun _ => by kernel_rfl) .e) (by kernel_rfl) (by kernel_rfl) fun _ => by kernel_rfl
def qbc_E (n : Nat) : aG := ⟨(SN [0] K1 .nil), [SY [0] (u1 (.tup PW)) .nil], fun d => qbc n d.1 d.2.1 d.2.2.1 d.2.2.2.1 d.2.2.2.2⟩
def qbc_ls (n : Nat) : List (Nat × aL) := [(0, ⟨[SN [1, 4, 5, 6, 7] (u5 hW hA .bool hE hA) (u2 Fa wE)], [SX 0 [1, 4, 5, 6] (u4 hW hA .bool hE) (u2 Fa wE)], qbc_W0 n⟩), (4, ⟨[SN [1, 4, 5, 6, 10, 11, 12, 17] (u8 hW hA .bool hE hF hA (.ptr 3 0 0 0) hA) Ql], [SY [2, 3] PW Ql, SX 4 [1, 4, 5, 6, 10, 11] (u6 hW hA .bool hE hF hA) Ql], qbc_W4 n⟩), (2, ⟨[SN [1, 4, 5, 6, 10, 11] (u6 hW hA .bool hE hF hA) (u3 Fa wE wE)], [SY [2, 3] PW Ql, SX 2 [1, 4, 5, 6, 10] (u5 hW hA .bool hE hF) (u3 Fa wE wE)], qbc_W2 n⟩), (6, ⟨[SN [1, 4, 5, 6, 10, 19, 20] (u7 hW hA .bool hE hF hG hA) (u4 Fa wE wE wE)], [SX 6 [1, 5, 6, 10, 19] (u5 hW .bool hE hF hG) (u4 Fa wE wE wE)], qbc_W6 n⟩), (8, ⟨[SN [1, 5, 6, 10, 19, 23, 24] (u7 hW .bool hE hF hG hH hA) (u5 Fa wE wE wE wE)], [SX 8 [1, 5, 6, 10, 19, 23] (u6 hW .bool hE hF hG hH) (u5 Fa wE wE wE wE)], qbc_W8 n⟩), (10, ⟨[SN [1, 5, 6, 10, 19, 23, 25, 26] (u8 hW .bool hE hF hG hH (.msw 5 0) hA) Q4], [SX 10 [5, 6, 10, 19, 23, 25] (u6 .bool hE hF hG hH (.msw 5 0)) Q4], qbc_W10 n⟩)]
theorem qbc_ok (n : Nat) : aM Tryz.prog 37 (qbc_E n) :=
 aM.bS n zz Tryz.f37 { live := [(0, [1, 4, 5, 6, 7]), (2, [1, 4, 5, 6, 10, 11]), (4, [1, 4, 5, 6, 10, 11, 12, 17]), (6, [1, 4, 5, 6, 10, 19, 20]), (8, [1, 5, 6, 10, 19, 23, 24]), (10, [1, 5, 6, 10, 19, 23, 25, 26])], boxed := [(10, 2), (21, 2), (21, 6), (21, 8), (21, 14), (28, 2), (35, 2), (35, 10), (40, 7), (46, 9), (46, 15)], raw := [(5, 2), (11, 4), (29, 4), (36, 4), (41, 4)] } (qbc_ls n) (.k (qeg_ok n) (.k (qaw_ok n) (.k (qde_ok n) (.k (qdj_ok n) (.k (qbz_ok n) (.k (qcf_ok n) (.k (qdb_ok n) .e))))))) (.k (fun _ => rfl) (fun _ => by kernel_rfl) (.k (fun _ => rfl) (fun _ => by kernel_rfl) (.k (fun _ => rfl) (fun _ => by kernel_rfl) (.k (fun _ => rfl) (fun _ => by kernel_rfl) (.k (fun _ => rfl) (fun _ => by kernel_rfl) (.k (fun _ => rfl) (fun _ => by kernel_rfl) .e)))))) (by kernel_rfl) (by kernel_rfl) fun _ => by kernel_rfl
def qco_E (n : Nat) : aG := ⟨(SN [0, 1, 2] QF .nil), [SY [0] hC .nil], fun d => qco n d.1.1 d.1.2.1 d.1.2.2.1 d.1.2.2.2.1 d.1.2.2.2.2 d.2.1.1 d.2.1.2.1 d.2.1.2.2.1 d.2.1.2.2.2.1 d.2.1.2.2.2.2 d.2.2.1 d.2.2.2.1 d.2.2.2.2⟩
theorem qco_ok (n : Nat) : aM Tryz.prog 85 (qco_E n) :=
 aM.bS n zz Tryz.f85 {} [] .e .e (by kernel_rfl) (by kernel_rfl) fun _ => by kernel_rfl
def qcu_E (n : Nat) : aG := ⟨(SN [0] Ny .nil), [SY [0] hC .nil], fun d => qcu n d.1 d.2⟩
theorem qcu_ok (n : Nat) : aM Tryz.prog 86 (qcu_E n) :=
 aM.bS n zz Tryz.f86 {} [] .e .e (by kernel_rfl) (by kernel_rfl) fun _ => by kernel_rfl
def qcj_E (n : Nat) : aG := ⟨(SN [0] K1 .nil), [SY [0] hX .nil], fun d => qcj n d.1 d.2.1 d.2.2.1 d.2.2.2.1 d.2.2.2.2⟩
def qcj_ls (n : Nat) : List (Nat × aL) := [(2, ⟨[SN [1, 5, 6, 7] (u4 hW hA hZ hA) HM], [SY [2] hX HM, SX 2 [1, 5, 6] (u3 hW hA hZ) HM], qcj_W2 n⟩), (4, ⟨[SN [1, 5, 6, 8] (u4 hW hA hZ hA) HM], [SY [2] hX HM, SX 4 [1, 5] Om HM], qcj_W4 n⟩), (0, ⟨[SN [1, 5] Om vA], [SY [2] hX HM, SX 0 [1] BC vA], qcj_W0 n⟩), (8, ⟨[SN [1, 9, 10, 11] (u4 hW hA .bool hA) vA], [SX 8 [1, 9, 10] (u3 hW hA .bool) vA], qcj_W8 n⟩), (6, ⟨[SN [1, 9] Om vA], [SY [2] hX vA, SX 6 [] .nil vA], qcj_W6 n⟩)]
theorem qcj_ok (n : Nat) : aM Tryz.prog 44 (qcj_E n) :=
 aM.bS n zz Tryz.f44 { live := [(0, [1, 5]), (2, [1, 5, 6, 7]), (4, [1, 5, 6, 8]), (6, [1, 9]), (8, [1, 9, 10, 11])] } (qcj_ls n) (.k (qbc_ok n) (.k (qco_ok n) (.k (qcu_ok n) .e))) (.k (fun _ => rfl) (fun _ => by kernel_rfl) (.k (fun _ => rfl) (fun _ => by kernel_rfl) (.k (fun _ => rfl) (fun _ => by kernel_rfl) (.k (fun _ => rfl) (fun _ => by kernel_rfl) (.k (fun _ => rfl) (fun _ => by kernel_rfl) .e))))) (by kernel_rfl) (by kernel_rfl) fun _ => by kernel_rfl
def qdn_E (n : Nat) : aG := ⟨(SN [0] K1 .nil), [SY [0] hC .nil], fun d => qdn n d.1 d.2.1 d.2.2.1 d.2.2.2.1 d.2.2.2.2⟩
theorem qdn_ok (n : Nat) : aM Tryz.prog 15 (qdn_E n) :=
 aM.bS n zz Tryz.f15 {} [] (.k (qcj_ok n) .e) .e (by kernel_rfl) (by kernel_rfl) fun _ => by kernel_rfl
def qcb_E (n : Nat) : aG := ⟨(SN [0, 1] (u2 BP BP) .nil), [SY [0] hC .nil], fun d => qcb n d.1 d.2⟩
def qcb_ls (n : Nat) : List (Nat × aL) := [(0, ⟨[SN [0, 1, 5] (u3 BP BP hA) .nil], [SY [4] hC .nil, SX 0 [] .nil .nil], qcb_W0 n⟩)]
theorem qcb_ok (n : Nat) : aM Tryz.prog 31 (qcb_E n) :=
 aM.bS n zz Tryz.f31 { live := [(0, [0, 1, 5])] } (qcb_ls n) .e (.k (fun _ => rfl) (fun _ => by kernel_rfl) .e) (by kernel_rfl) (by kernel_rfl) fun _ => by kernel_rfl
def qdk_E (n : Nat) : aG := ⟨(SN [0, 1] (u2 Lh Lh) .nil), [SY [0] hC .nil], fun d => qdk n d.1 d.2⟩
def qdk_ls (n : Nat) : List (Nat × aL) := [(0, ⟨[SN [0, 1, 5] (u3 Lh Lh hA) .nil], [SY [4] hC .nil, SX 0 [] .nil .nil], qdk_W0 n⟩)]
theorem qdk_ok (n : Nat) : aM Tryz.prog 40 (qdk_E n) :=
 aM.bS n zz Tryz.f40 { live := [(0, [0, 1, 5])] } (qdk_ls n) .e (.k (fun _ => rfl) (fun _ => by kernel_rfl) .e) (by kernel_rfl) (by kernel_rfl) fun _ => by kernel_rfl
def qcz_E (n : Nat) : aG := ⟨(SN [0, 1] (u2 hQ hQ) .nil), [SY [0] hC .nil], fun d => qcz n d.1 d.2⟩
def qcz_ls (n : Nat) : List (Nat × aL) := [(0, ⟨[SN [0, 1, 5] (u3 hQ hQ hA) .nil], [SY [4] hC .nil, SX 0 [] .nil .nil], qcz_W0 n⟩)]
theorem qcz_ok (n : Nat) : aM Tryz.prog 45 (qcz_E n) :=
 aM.bS n zz Tryz.f45 { live := [(0, [0, 1, 5])] } (qcz_ls n) (.k (qcb_ok n) (.k (qdk_ok n) .e)) (.k (fun _ => rfl) (fun _ => by kernel_rfl) .e) (by kernel_rfl) (by kernel_rfl) fun _ => by kernel_rfl
def qdi_E (n : Nat) : aG := ⟨(SN [0, 1] (u2 hR hR) .nil), [SY [0] hC .nil], fun d => qdi n d.1 d.2⟩
def qdi_ls (n : Nat) : List (Nat × aL) := [(0, ⟨[SN [0, 1, 5] (u3 hR hR hA) .nil], [SY [4] hC .nil, SX 0 [] .nil .nil], qdi_W0 n⟩)]
theorem qdi_ok (n : Nat) : aM Tryz.prog 32 (qdi_E n) :=
 aM.bS n zz Tryz.f32 { live := [(0, [0, 1, 5])] } (qdi_ls n) .e (.k (fun _ => rfl) (fun _ => by kernel_rfl) .e) (by kernel_rfl) (by kernel_rfl) fun _ => by kernel_rfl
def qbl_E (n : Nat) : aG := ⟨(SN [0, 1] (u2 NO NO) .nil), [SY [0] hC .nil], fun d => qbl n d.1.1 d.1.2.1 d.1.2.2.1 d.1.2.2.2.1 d.1.2.2.2.2.1 d.1.2.2.2.2.2.1 d.1.2.2.2.2.2.2 d.2.1 d.2.2.1 d.2.2.2.1 d.2.2.2.2.1 d.2.2.2.2.2.1 d.2.2.2.2.2.2.1 d.2.2.2.2.2.2.2⟩
def qbl_ls (n : Nat) : List (Nat × aL) := [(0, ⟨[SN [2, 3, 5] (u3 hW hZ hA) (u2 NR NR)], [SY [4] hC (u4 NR NR PU PU), SX 0 [2, 3] (u2 hW hZ) (u2 NR NR)], qbl_W0 n⟩)]
theorem qbl_ok (n : Nat) : aM Tryz.prog 16 (qbl_E n) :=
 aM.bS n zz Tryz.f16 { live := [(0, [2, 3, 5])] } (qbl_ls n) (.k (qcb_ok n) (.k (qcz_ok n) (.k (qdi_ok n) .e))) (.k (fun _ => rfl) (fun _ => by kernel_rfl) .e) (by kernel_rfl) (by kernel_rfl) fun _ => by kernel_rfl
def qcc_E (n : Nat) : aG := ⟨(SN [0, 1] (u2 Pz hA) .nil), [SY [0] Ny .nil], fun d => qcc n d.1.1 d.1.2.1 d.1.2.2.1 d.1.2.2.2.1 d.1.2.2.2.2 d.2⟩
theorem qcc_ok (n : Nat) : aM Tryz.prog 132 (qcc_E n) :=
 aM.bS n zz Tryz.f132 { boxed := [(1, 0), (1, 3)] } [] .e .e (by kernel_rfl) (by kernel_rfl) fun _ => by kernel_rfl
def qda_E (n : Nat) : aG := ⟨(SN [0, 1, 2, 3] (u4 JJ Pz Pa hM) .nil), [SY [0] (u1 (.tup (u3 hM hS .bool))) .nil], fun d => qda n d.1.1 d.1.2.1 d.1.2.2.1 d.1.2.2.2.1 d.1.2.2.2.2 d.2.1.1 d.2.1.2.1 d.2.1.2.2.1 d.2.1.2.2.2.1 d.2.1.2.2.2.2 d.2.2.1.1 d.2.2.1.2.1 d.2.2.1.2.2 d.2.2.2⟩
theorem qda_ok (n : Nat) : aM Tryz.prog 87 (qda_E n) :=
 aM.bS n zz Tryz.f87 {} [] (.k (qcc_ok n) .e) .e (by kernel_rfl) (by kernel_rfl) fun _ => by kernel_rfl
def qds_E (n : Nat) : aG := ⟨(SN [0] Ny .nil), [SY [0] hC .nil], fun d => qds n d.1 d.2⟩
theorem qds_ok (n : Nat) : aM Tryz.prog 89 (qds_E n) :=
 aM.bS n zz Tryz.f89 {} [] .e .e (by kernel_rfl) (by kernel_rfl) fun _ => by kernel_rfl
def qdu_E (n : Nat) : aG := ⟨(SN [0, 1] (u2 Mv Mv) .nil), [SY [0] hC .nil], fun d => qdu n d.1.1 d.1.2 d.2.1 d.2.2⟩
theorem qdu_ok (n : Nat) : aM Tryz.prog 88 (qdu_E n) :=
 aM.bS n zz Tryz.f88 {} [] (.k (qds_ok n) .e) .e (by kernel_rfl) (by kernel_rfl) fun _ => by kernel_rfl
def qdo_E (n : Nat) : aG := ⟨(SN [0, 1, 2, 3] (u4 JJ hA hA hM) .nil), [SY [0] (u1 (.tup (u3 hS NV hA))) .nil], fun d => qdo n d.1.1 d.1.2.1 d.1.2.2.1 d.1.2.2.2.1 d.1.2.2.2.2 d.2.1 d.2.2.1 d.2.2.2⟩
def qdo_ls (n : Nat) : List (Nat × aL) := [(0, ⟨[SN [2, 3, 11, 12, 13, 14, 16, 17] (u8 hA hM hW hZ hM hS hA hA) QI], [SY [8, 9, 10] (u3 hS NV hA) QI, SX 0 [2, 3, 11, 12, 14, 16] (u6 hA hM hW hZ hS hA) QI], qdo_W0 n⟩)]
theorem qdo_ok (n : Nat) : aM Tryz.prog 46 (qdo_E n) :=
 aM.bS n zz Tryz.f46 { live := [(0, [2, 3, 11, 12, 13, 14, 16, 17])], boxed := [(12, 0), (12, 4)] } (qdo_ls n) (.k (qda_ok n) (.k (qdu_ok n) .e)) (.k (fun _ => rfl) (fun _ => by kernel_rfl) .e) (by kernel_rfl) (by kernel_rfl) fun _ => by kernel_rfl
def qcl_E (n : Nat) : aG := ⟨(SN [0, 1] (u2 Mv Mv) .nil), [SY [0] Ny .nil], fun d => qcl n d.1.1 d.1.2 d.2.1 d.2.2⟩
theorem qcl_ok (n : Nat) : aM Tryz.prog 47 (qcl_E n) :=
 aM.bS n zz Tryz.f47 {} [] (.k (qdu_ok n) (.k (qds_ok n) .e)) .e (by kernel_rfl) (by kernel_rfl) fun _ => by kernel_rfl
def qcq_E (n : Nat) : aG := ⟨(SN [0, 1] PC .nil), [SY [0] hC .nil], fun d => qcq n d.1 d.2⟩
def qcq_ls (n : Nat) : List (Nat × aL) := [(0, ⟨[SN [0, 1, 5] (u3 hM hM hA) .nil], [SY [4] hC .nil, SX 0 [] .nil .nil], qcq_W0 n⟩)]
theorem qcq_ok (n : Nat) : aM Tryz.prog 48 (qcq_E n) :=
 aM.bS n zz Tryz.f48 { live := [(0, [0, 1, 5])] } (qcq_ls n) .e (.k (fun _ => rfl) (fun _ => by kernel_rfl) .e) (by kernel_rfl) (by kernel_rfl) fun _ => by kernel_rfl
def qdp_E (n : Nat) : aG := ⟨(SN [0] K1 .nil), [SY [0] (u1 (.tup P0)) .nil], fun d => qdp n d.1 d.2.1 d.2.2.1 d.2.2.2.1 d.2.2.2.2⟩
def qdp_ls (n : Nat) : List (Nat × aL) := [(8, ⟨[SN [1, 4, 5, 6, 7, 8, 9, 10, 12, 13, 14, 15] (.cons hW (.cons hE (.cons hA (u9 hF .bool hA hS NV hA (.ptrI 2 0 0) hG hA)))) (u4 Fa PZ Qz QE)], [SX 8 [1, 4, 5, 6, 7, 8, 9, 10, 12, 13, 14] (.cons hW (.cons hE (u9 hA hF .bool hA hS NV hA (.ptrI 2 0 0) hG))) (u4 Fa PZ Qz QE)], qdp_W8 n⟩), (6, ⟨[SN [1, 4, 5, 6, 7, 8, 9, 10, 12] (u9 hW hE hA hF .bool hA hS NV hA) NS], [SY [2, 3] P0 NS, SX 6 [1, 4, 5, 6, 7, 8] (u6 hW hE hA hF .bool hA) NS], qdp_W6 n⟩), (4, ⟨[SN [1, 4, 5, 6, 7, 8] (u6 hW hE hA hF .bool hA) NS], [SY [2, 3] P0 NS, SX 4 [1, 4, 5, 6, 7] (u5 hW hE hA hF .bool) NS], qdp_W4 n⟩), (2, ⟨[SN [1, 4, 5, 6, 7] (u5 hW hE hA hF .bool) NS], [SY [2, 3] P0 NS, SX 2 [1, 4, 5, 6] (u4 hW hE hA hF) NS], qdp_W2 n⟩), (0, ⟨[SN [1, 4, 5] (u3 hW hE hA) (u2 Fa PZ)], [SY [2, 3] P0 NS, SX 0 [4] (u1 hE) (u2 Fa PZ)], qdp_W0 n⟩)]
theorem qdp_ok (n : Nat) : aM Tryz.prog 17 (qdp_E n) :=
 aM.bS n zz Tryz.f17 { live := [(0, [1, 4, 5]), (2, [1, 4, 5, 6, 7]), (4, [1, 4, 5, 6, 7, 8]), (6, [1, 4, 5, 6, 7, 8, 9, 10, 12]), (8, [1, 4, 5, 6, 7, 8, 9, 10, 12, 13, 14, 15])], boxed := [(1, 0), (5, 7), (25, 0), (25, 5), (32, 3)] } (qdp_ls n) (.k (qdo_ok n) (.k (qcl_ok n) (.k (qcq_ok n) .e))) (.k (fun _ => rfl) (fun _ => by kernel_rfl) (.k (fun _ => rfl) (fun _ => by kernel_rfl) (.k (fun _ => rfl) (fun _ => by kernel_rfl) (.k (fun _ => rfl) (fun _ => by kernel_rfl) (.k (fun _ => rfl) (fun _ => by kernel_rfl) .e))))) (by kernel_rfl) (by kernel_rfl) fun _ => by kernel_rfl
def qbu_E (n : Nat) : aG := ⟨(SN [0, 1] (u2 JJ hA) .nil), [SY [0] (u1 QT) .nil], fun d => qbu n d.1.1 d.1.2.1 d.1.2.2.1 d.1.2.2.2.1 d.1.2.2.2.2 d.2⟩
theorem qbu_ok (n : Nat) : aM Tryz.prog 18 (qbu_E n) :=
 aM.bS n zz Tryz.f18 {} [] .e .e (by kernel_rfl) (by kernel_rfl) fun _ => by kernel_rfl
def qct_E (n : Nat) : aG := ⟨(SN [0] (u1 hM) .nil), [SY [0] (u1 hM) .nil], fun d => qct n d⟩
theorem qct_ok (n : Nat) : aM Tryz.prog 204 (qct_E n) :=
 aM.bS n zz Tryz.f204 {} [] .e .e (by kernel_rfl) (by kernel_rfl) fun _ => by kernel_rfl
def qdv_E (n : Nat) : aG := ⟨(SN [0, 1] (u2 hA hM) .nil), [SY [0] Qt .nil], fun d => qdv n d.1 d.2⟩
theorem qdv_ok (n : Nat) : aM Tryz.prog 193 (qdv_E n) :=
 aM.bS n zz Tryz.f193 {} [] (.k (qct_ok n) .e) .e (by kernel_rfl) (by kernel_rfl) fun _ => by kernel_rfl
def qdc_E (n : Nat) : aG := ⟨(SN [0] hX .nil), [SY [0] Qt .nil], fun d => qdc n d⟩
theorem qdc_ok (n : Nat) : aM Tryz.prog 194 (qdc_E n) :=
 aM.bS n zz Tryz.f194 {} [] (.k (qct_ok n) .e) .e (by kernel_rfl) (by kernel_rfl) fun _ => by kernel_rfl
def qcw_E (n : Nat) : aG := ⟨(SN [0, 1] (u2 Pz hA) .nil), [SY [0] Ny .nil], fun d => qcw n d.1.1 d.1.2.1 d.1.2.2.1 d.1.2.2.2.1 d.1.2.2.2.2 d.2⟩
theorem qcw_ok (n : Nat) : aM Tryz.prog 205 (qcw_E n) :=
 aM.bS n zz Tryz.f205 {} [] .e .e (by kernel_rfl) (by kernel_rfl) fun _ => by kernel_rfl
def qdq_E (n : Nat) : aG := ⟨(SN [0, 1, 2] QF .nil), [SY [0] (u1 (.agg PC)) .nil], fun d => qdq n d.1.1 d.1.2.1 d.1.2.2.1 d.1.2.2.2.1 d.1.2.2.2.2 d.2.1.1 d.2.1.2.1 d.2.1.2.2.1 d.2.1.2.2.2.1 d.2.1.2.2.2.2 d.2.2.1 d.2.2.2.1 d.2.2.2.2⟩
theorem qdq_ok (n : Nat) : aM Tryz.prog 195 (qdq_E n) :=
 aM.bS n zz Tryz.f195 {} [] (.k (qct_ok n) (.k (qcw_ok n) .e)) .e (by kernel_rfl) (by kernel_rfl) fun _ => by kernel_rfl
def qer_E (n : Nat) : aG := ⟨(SN [0, 1, 2, 3] (u4 JJ Pz Pa hM) .nil), [SY [0] Qt .nil], fun d => qer n d.1.1 d.1.2.1 d.1.2.2.1 d.1.2.2.2.1 d.1.2.2.2.2 d.2.1.1 d.2.1.2.1 d.2.1.2.2.1 d.2.1.2.2.2.1 d.2.1.2.2.2.2 d.2.2.1.1 d.2.2.1.2.1 d.2.2.1.2.2 d.2.2.2⟩
theorem qer_ok (n : Nat) : aM Tryz.prog 167 (qer_E n) :=
 aM.bS n zz Tryz.f167 {} [] (.k (qdv_ok n) (.k (qdc_ok n) (.k (qdq_ok n) .e))) .e (by kernel_rfl) (by kernel_rfl) fun _ => by kernel_rfl
def qeo_E (n : Nat) : aG := ⟨(SN [0] Ny .nil), [SY [0] hC .nil], fun d => qeo n d.1 d.2⟩
theorem qeo_ok (n : Nat) : aM Tryz.prog 94 (qeo_E n) :=
 aM.bS n zz Tryz.f94 {} [] .e .e (by kernel_rfl) (by kernel_rfl) fun _ => by kernel_rfl
def qel_E (n : Nat) : aG := ⟨(SN [0, 1] (u2 Mv Mv) .nil), [SY [0] hC .nil], fun d => qel n d.1.1 d.1.2 d.2.1 d.2.2⟩
theorem qel_ok (n : Nat) : aM Tryz.prog 168 (qel_E n) :=
 aM.bS n zz Tryz.f168 {} [] (.k (qeo_ok n) .e) .e (by kernel_rfl) (by kernel_rfl) fun _ => by kernel_rfl
def qec_E (n : Nat) : aG := ⟨(SN [0, 1] (u2 Pa hA) .nil), [SY [0] (u1 NV) .nil], fun d => qec n d.1.1 d.1.2.1 d.1.2.2 d.2⟩
theorem qec_ok (n : Nat) : aM Tryz.prog 169 (qec_E n) :=
 aM.bS n zz Tryz.f169 {} [] .e .e (by kernel_rfl) (by kernel_rfl) fun _ => by kernel_rfl
def qeh_E (n : Nat) : aG := ⟨(SN [0, 1] (u2 .nilS hA) .nil), [SY [0] (u1 (.ms 0 0)) PK, SY [0] (u1 .nilS) .nil], fun d => qeh n d⟩
theorem qeh_ok (n : Nat) : aM Tryz.prog 96 (qeh_E n) :=
 aM.b n zz Tryz.f96 { boxed := [(0, 0), (1, 0), (3, 0), (3, 1), (3, 3), (3, 7), (4, 0), (5, 0), (5, 1), (5, 4), (5, 5), (5, 6), (5, 9), (6, 0), (6, 1)] } [] .e .e (by kernel_rfl) (by kernel_rfl) fun _ => by kernel_rfl
def qci_E (n : Nat) : aG := ⟨(SN [0] (u1 hI) .nil), [SY [0] (u1 (.ms 0 0)) PK, SY [0] (u1 hS) .nil], fun d => qci n d⟩
def qci_ls (n : Nat) : List (Nat × aL) := [(0, ⟨[SN [0, 3, 9, 10, 11] (u5 hI hA hI hA hA) .nil], [SX 0 [0, 3] (u2 hI hA) .nil], qci_W0 n⟩), (2, ⟨[SN [6, 25, 26, 27] (u4 (.ms 0 0) hI hA hA) PK, SN [6, 25, 26, 27] (u4 hD hI hA hA) PK, SN [6, 25, 26, 27] (u4 .nilS hI hA hA) .nil], [SX 2 [6] (u1 (.ms 0 0)) PK, SX 2 [6] Lg PK, SX 2 [6] (u1 .nilS) .nil], qci_W2x1 n⟩)]
theorem qci_ok (n : Nat) : aM Tryz.prog 55 (qci_E n) :=
 aM.bS n zz Tryz.f55 { live := [(0, [0, 3, 9, 10, 11]), (2, [6, 25, 26, 27])], boxed := [(2, 0), (4, 2), (5, 0), (5, 1), (5, 4), (6, 0), (8, 1), (9, 0), (9, 2), (10, 0), (12, 2), (13, 0), (13, 1), (13, 2), (13, 3), (14, 1), (15, 0), (15, 1)], raw := [(9, 1)] } (qci_ls n) (.k (qeh_ok n) .e) (.k (fun _ => rfl) (fun _ => by kernel_rfl) (.k (fun _ => rfl) (fun s => by rcases s with s | s | s <;> kernel_rfl) .e)) (by kernel_rfl) (by kernel_rfl) fun _ => by kernel_rfl
def qdx_E (n : Nat) : aG := ⟨(SN [0] (u1 hM) .nil), [SY [0] (u1 hM) .nil], fun d => qdx n d⟩
theorem qdx_ok (n : Nat) : aM Tryz.prog 170 (qdx_E n) :=
 aM.bS n zz Tryz.f170 {} [] .e .e (by kernel_rfl) (by kernel_rfl) fun _ => by kernel_rfl
def qed_E (n : Nat) : aG := ⟨(SN [0, 1, 2, 3] (u4 JJ hA hA hM) .nil), [SY [0] (u1 (.tup (u3 hM NV hA))) .nil], fun d => qed n d.1.1 d.1.2.1 d.1.2.2.1 d.1.2.2.2.1 d.1.2.2.2.2 d.2.1 d.2.2.1 d.2.2.2⟩
def qed_ls (n : Nat) : List (Nat × aL) := [(0, ⟨[SN [2, 3, 11, 12, 14, 55, 56, 57] (u8 hA hM hW hZ hA hM hA hA) Q1], [SY [8, 9, 10] (u3 hS NV hA) (u3 PJ (.bcells 0 false 1 PC) PL), SX 0 [2, 3, 11, 12, 14] (u5 hA hM hW hZ hA) Q1], qed_W0 n⟩)]
theorem qed_ok (n : Nat) : aM Tryz.prog 133 (qed_E n) :=
 aM.bS n zz Tryz.f133 { live := [(0, [2, 3, 11, 12, 14, 55, 56, 57])] } (qed_ls n) (.k (qer_ok n) (.k (qel_ok n) (.k (qec_ok n) (.k (qci_ok n) (.k (qdx_ok n) .e))))) (.k (fun _ => rfl) (fun _ => by kernel_rfl) .e) (by kernel_rfl) (by kernel_rfl) fun _ => by kernel_rfl
def qaq_E (n : Nat) : aG := ⟨(SN [0, 1, 2] (u3 hM hM (.fn 168 .nil .nil)) .nil), [SY [0] hC .nil], fun d => qaq n d.1 d.2⟩
def qaq_ls (n : Nat) : List (Nat × aL) := [(0, ⟨[SN [1, 2, 15, 16, 17] (u5 hM (.fn 168 .nil .nil) hM hA hA) .nil], [SY [6] hC (u2 PL PL), SX 0 [] .nil .nil], qaq_W0 n⟩)]
theorem qaq_ok (n : Nat) : aM Tryz.prog 171 (qaq_E n) :=
 aM.bS n zz Tryz.f171 { live := [(0, [1, 2, 15, 16, 17])] } (qaq_ls n) (.k (qel_ok n) .e) (.k (fun _ => rfl) (fun _ => by kernel_rfl) .e) (by kernel_rfl) (by kernel_rfl) fun _ => by kernel_rfl
def qbx_E (n : Nat) : aG := ⟨(SN [0, 1] PC .nil), [SY [0] hC .nil], fun d => qbx n d.1 d.2⟩
theorem qbx_ok (n : Nat) : aM Tryz.prog 135 (qbx_E n) :=
 aM.bS n zz Tryz.f135 {} [] (.k (qaq_ok n) .e) .e (by kernel_rfl) (by kernel_rfl) fun _ => by kernel_rfl
def qdl_E (n : Nat) : aG := ⟨(SN [0, 1, 2] (u3 hA hW hZ) Oq), [SY [0] hC Oq], fun d => qdl n d.1 d.2.1 d.2.2⟩
theorem qdl_ok (n : Nat) : aM Tryz.prog 134 (qdl_E n) :=
 aM.bS n zz Tryz.f134 {} [] (.k (qbx_ok n) .e) .e (by kernel_rfl) (by kernel_rfl) fun _ => by kernel_rfl
def qay_E (n : Nat) : aG := ⟨(SN [0, 1] Q6 Oq), [SY [0] hX Oq], fun d => qay n d.1 d.2.1 d.2.2⟩
def qay_ls (n : Nat) : List (Nat × aL) := [(0, ⟨[SN [0, 1, 7, 8] (u4 Q3 (.fn 134 .nil (u2 hW hZ)) hA hA) Oq], [SY [4] hX Oq, SX 0 [] .nil Oq], qay_W0 n⟩)]
theorem qay_ok (n : Nat) : aM Tryz.prog 172 (qay_E n) :=
 aM.bS n zz Tryz.f172 { live := [(0, [0, 1, 7, 8])] } (qay_ls n) (.k (qdl_ok n) .e) (.k (fun _ => rfl) (fun _ => by kernel_rfl) .e) (by kernel_rfl) (by kernel_rfl) fun _ => by kernel_rfl
def qad_E (n : Nat) : aG := ⟨(SN [0, 1] Q6 Oq), [SY [0] hC Oq], fun d => qad n d.1 d.2.1 d.2.2⟩
theorem qad_ok (n : Nat) : aM Tryz.prog 136 (qad_E n) :=
 aM.bS n zz Tryz.f136 {} [] (.k (qay_ok n) .e) .e (by kernel_rfl) (by kernel_rfl) fun _ => by kernel_rfl
def qei_E (n : Nat) : aG := ⟨(SN [0, 1, 2, 3] (u4 JJ hA hA hV) .nil), [SY [0] hC .nil], fun d => qei n d.1.1 d.1.2.1 d.1.2.2.1 d.1.2.2.2.1 d.1.2.2.2.2 d.2.1 d.2.2.1 d.2.2.2⟩
theorem qei_ok (n : Nat) : aM Tryz.prog 90 (qei_E n) :=
 aM.bS n zz Tryz.f90 {} [] (.k (qed_ok n) (.k (qad_ok n) .e)) .e (by kernel_rfl) (by kernel_rfl) fun _ => by kernel_rfl
def qbr_E (n : Nat) : aG := ⟨(SN [0, 1] (u2 JJ hU) .nil), [SY [0] hC .nil], fun d => qbr n d.1.1 d.1.2.1 d.1.2.2.1 d.1.2.2.2.1 d.1.2.2.2.2 d.2⟩
def qbr_ls (n : Nat) : List (Nat × aL) := [(2, ⟨[SN [2, 5, 6, 19, 20, 21, 52, 53] (u8 hW hA hV hU hA hA hA hA) vA], [SY [4] hC vA, SX 2 [2, 19, 20, 21] (u4 hW hU hA hA) vA], qbr_W2 n⟩), (0, ⟨[SN [2, 19, 20, 21] (u4 hW hU hA hA) vA], [SY [4] hC vA, SX 0 [] .nil vA], qbr_W0 n⟩)]
theorem qbr_ok (n : Nat) : aM Tryz.prog 49 (qbr_E n) :=
 aM.bS n zz Tryz.f49 { live := [(0, [2, 19, 20, 21]), (2, [2, 5, 6, 19, 20, 21, 52, 53])] } (qbr_ls n) (.k (qeb_ok n) (.k (qei_ok n) .e)) (.k (fun _ => rfl) (fun _ => by kernel_rfl) (.k (fun _ => rfl) (fun _ => by kernel_rfl) .e)) (by kernel_rfl) (by kernel_rfl) fun _ => by kernel_rfl
def qq_E (n : Nat) : aG := ⟨(SN [0] (u1 (.agg (u3 hA hB .bool))) .nil), [SY [0] hC .nil], fun d => qq n d.1 d.2.1 d.2.2⟩
theorem qq_ok (n : Nat) : aM Tryz.prog 137 (qq_E n) :=
 aM.bS n zz Tryz.f137 {} [] .e .e (by kernel_rfl) (by kernel_rfl) fun _ => by kernel_rfl
def qae_E (n : Nat) : aG := ⟨(SN [0, 1] (u2 hR (.fn 137 .nil .nil)) .nil), [SY [0] hX .nil], fun d => qae n d⟩
def qae_ls (n : Nat) : List (Nat × aL) := [(0, ⟨[SN [0, 1, 7, 8] (u4 hR (.fn 137 .nil .nil) hA hA) .nil], [SY [4] hX .nil, SX 0 [] .nil .nil], qae_W0 n⟩)]
theorem qae_ok (n : Nat) : aM Tryz.prog 173 (qae_E n) :=
 aM.bS n zz Tryz.f173 { live := [(0, [0, 1, 7, 8])] } (qae_ls n) (.k (qq_ok n) .e) (.k (fun _ => rfl) (fun _ => by kernel_rfl) .e) (by kernel_rfl) (by kernel_rfl) fun _ => by kernel_rfl
def qi_E (n : Nat) : aG := ⟨(SN [0, 1] (u2 hR (.fn 137 .nil .nil)) .nil), [SY [0] hC .nil], fun d => qi n d⟩
theorem qi_ok (n : Nat) : aM Tryz.prog 138 (qi_E n) :=
 aM.bS n zz Tryz.f138 {} [] (.k (qae_ok n) .e) .e (by kernel_rfl) (by kernel_rfl) fun _ => by kernel_rfl
def qaj_E (n : Nat) : aG := ⟨(SN [0, 1, 2] (u3 hW hB Mv) E7), [SY [0] hC E7], fun d => qaj n d.1.1 d.1.2.1 d.1.2.2 d.2⟩
theorem qaj_ok (n : Nat) : aM Tryz.prog 176 (qaj_E n) :=
 aM.bS n zz Tryz.f176 {} [] .e .e (by kernel_rfl) (by kernel_rfl) fun _ => by kernel_rfl
def qx_E (n : Nat) : aG := ⟨(SN [0, 1, 2] (u3 BP hM (.fn 176 BC .nil)) E7), [SY [0] hC E7], fun d => qx n d.1.1 d.1.2 d.2⟩
def qx_ls (n : Nat) : List (Nat × aL) := [(0, ⟨[SN [1, 2, 15, 16, 17] (u5 hM (.fn 176 BC .nil) BP hA hA) E7], [SY [6] hC (u2 Qg PL), SX 0 [] .nil E7], qx_W0 n⟩)]
theorem qx_ok (n : Nat) : aM Tryz.prog 175 (qx_E n) :=
 aM.bS n zz Tryz.f175 { live := [(0, [1, 2, 15, 16, 17])] } (qx_ls n) (.k (qaj_ok n) .e) (.k (fun _ => rfl) (fun _ => by kernel_rfl) .e) (by kernel_rfl) (by kernel_rfl) fun _ => by kernel_rfl
def qy_E (n : Nat) : aG := ⟨(SN [0, 1, 2] (u3 hW BP hM) E7), [SY [0] hC E7], fun d => qy n d.1.1 d.1.2 d.2⟩
theorem qy_ok (n : Nat) : aM Tryz.prog 143 (qy_E n) :=
 aM.bS n zz Tryz.f143 {} [] (.k (qx_ok n) .e) .e (by kernel_rfl) (by kernel_rfl) fun _ => by kernel_rfl
def qai_E (n : Nat) : aG := ⟨(SN [0, 1] (u2 hW PI) E7), [SY [0] hC E7], fun d => qai n d.1.1 d.1.2.1 d.1.2.2.1 d.1.2.2.2 d.2⟩
theorem qai_ok (n : Nat) : aM Tryz.prog 141 (qai_E n) :=
 aM.bS n zz Tryz.f141 {} [] (.k (qy_ok n) .e) .e (by kernel_rfl) (by kernel_rfl) fun _ => by kernel_rfl
def qo_E (n : Nat) : aG := ⟨(SN [0, 1] (u2 PI hW) O5), [SY [0] hC O5], fun d => qo n d.1.1 d.1.2.1 d.1.2.2.1 d.1.2.2.2 d.2⟩
theorem qo_ok (n : Nat) : aM Tryz.prog 140 (qo_E n) :=
 aM.bS n zz Tryz.f140 {} [] (.k (qai_ok n) .e) .e (by kernel_rfl) (by kernel_rfl) fun _ => by kernel_rfl
def qax_E (n : Nat) : aG := ⟨(SN [0, 1] (u2 hQ (.fn 140 .nil BC)) O5), [SY [0] hX O5], fun d => qax n d.1 d.2⟩
def qax_ls (n : Nat) : List (Nat × aL) := [(0, ⟨[SN [0, 1, 7, 8] (u4 hQ (.fn 140 .nil BC) hA hA) O5], [SY [4] hX O5, SX 0 [] .nil O5], qax_W0 n⟩)]
theorem qax_ok (n : Nat) : aM Tryz.prog 174 (qax_E n) :=
 aM.bS n zz Tryz.f174 { live := [(0, [0, 1, 7, 8])] } (qax_ls n) (.k (qo_ok n) .e) (.k (fun _ => rfl) (fun _ => by kernel_rfl) .e) (by kernel_rfl) (by kernel_rfl) fun _ => by kernel_rfl
def qac_E (n : Nat) : aG := ⟨(SN [0, 1] (u2 hQ (.fn 140 .nil BC)) O5), [SY [0] hC O5], fun d => qac n d.1 d.2⟩
theorem qac_ok (n : Nat) : aM Tryz.prog 139 (qac_E n) :=
 aM.bS n zz Tryz.f139 {} [] (.k (qax_ok n) .e) .e (by kernel_rfl) (by kernel_rfl) fun _ => by kernel_rfl
def qu_E (n : Nat) : aG := ⟨(SN [0] BC E7), [SY [0] hC E7], fun d => qu n d⟩
theorem qu_ok (n : Nat) : aM Tryz.prog 91 (qu_E n) :=
 aM.bS n zz Tryz.f91 {} [] (.k (qi_ok n) (.k (qac_ok n) .e)) .e (by kernel_rfl) (by kernel_rfl) fun _ => by kernel_rfl
def qam_E (n : Nat) : aG := ⟨(SN [0, 1] (u2 hW PN) E7), [SY [0] hC E7], fun d => qam n d.1.1 d.1.2.1 d.1.2.2.1 d.1.2.2.2 d.2⟩
theorem qam_ok (n : Nat) : aM Tryz.prog 142 (qam_E n) :=
 aM.bS n zz Tryz.f142 {} [] (.k (qci_ok n) (.k (qy_ok n) .e)) .e (by kernel_rfl) (by kernel_rfl) fun _ => by kernel_rfl
def qn_E (n : Nat) : aG := ⟨(SN [0, 1, 2] (u3 hW PN hA) E7), [SY [0] hC E7], fun d => qn n d.1.1.1 d.1.1.2.1 d.1.1.2.2.1 d.1.1.2.2.2 d.1.2 d.2⟩
theorem qn_ok (n : Nat) : aM Tryz.prog 177 (qn_E n) :=
 aM.bS n zz Tryz.f177 {} [] (.k (qy_ok n) .e) .e (by kernel_rfl) (by kernel_rfl) fun _ => by kernel_rfl
def qz_E (n : Nat) : aG := ⟨(SN [0, 1, 2] (u3 hW PN PN) E7), [SY [0] hC E7], fun d => qz n d.1.1.1 d.1.1.2.1 d.1.1.2.2.1 d.1.1.2.2.2 d.1.2.1 d.1.2.2.1 d.1.2.2.2.1 d.1.2.2.2.2 d.2⟩
theorem qz_ok (n : Nat) : aM Tryz.prog 144 (qz_E n) :=
 aM.bS n zz Tryz.f144 {} [] (.k (qn_ok n) .e) .e (by kernel_rfl) (by kernel_rfl) fun _ => by kernel_rfl
def ql_E (n : Nat) : aG := ⟨(SN [0] BC E7), [SY [0] hC E7], fun d => ql n d⟩
def ql_ls (n : Nat) : List (Nat × aL) := [(0, ⟨[SN [0, 3, 11, 12, 13] (u5 hW hP hP hA hA) E7], [SY [2] hC (u2 Qg PU), SX 0 [] .nil E7], ql_W0 n⟩)]
theorem ql_ok (n : Nat) : aM Tryz.prog 92 (ql_E n) :=
 aM.bS n zz Tryz.f92 { live := [(0, [0, 3, 11, 12, 13])] } (ql_ls n) (.k (qam_ok n) (.k (qy_ok n) (.k (qz_ok n) .e))) (.k (fun _ => rfl) (fun _ => by kernel_rfl) .e) (by kernel_rfl) (by kernel_rfl) fun _ => by kernel_rfl
def qdg_E (n : Nat) : aG := ⟨(SN [0, 1, 2] Qk .nil), [SY [0] hC .nil], fun d => qdg n d.1.1 d.1.2.1 d.1.2.2.1 d.1.2.2.2.1 d.1.2.2.2.2 d.2.1 d.2.2⟩
theorem qdg_ok (n : Nat) : aM Tryz.prog 50 (qdg_E n) :=
 aM.bS n zz Tryz.f50 {} [] (.k (qu_ok n) (.k (ql_ok n) .e)) .e (by kernel_rfl) (by kernel_rfl) fun _ => by kernel_rfl
def He (n : Nat) : aG := ⟨(SN [0, 1, 2] Qk .nil), [SY [0] hC .nil], fun d => stateTyped n d.1.1 d.1.2.1 d.1.2.2.1 d.1.2.2.2.1 d.1.2.2.2.2 d.2.1 d.2.2⟩
theorem nQ (n : Nat) : aM Tryz.prog 19 (He n) :=
 aM.bS n zz Tryz.f19 {} [] (.k (qbr_ok n) (.k (qdg_ok n) .e)) .e (by kernel_rfl) (by kernel_rfl) fun _ => by kernel_rfl
def v6 (n : Nat) : aG := ⟨(SN [0, 1] (u2 JJ hA) .nil), [SY [0] hC .nil], fun d => gH n d.1.1 d.1.2.1 d.1.2.2.1 d.1.2.2.2.1 d.1.2.2.2.2 d.2⟩
theorem s5 (n : Nat) : aM Tryz.prog 3 (v6 n) :=
 aM.bS n zz Tryz.f3 {} [] (.k (qcg_ok n) (.k (qaz_ok n) (.k (qbw_ok n) (.k (qdn_ok n) (.k (qbl_ok n) (.k (qdp_ok n) (.k (qbu_ok n) (.k (nQ n) .e)))))))) .e (by kernel_rfl) (by kernel_rfl) fun _ => by kernel_rfl
def qbq_E (n : Nat) : aG := ⟨(SN [0] (u1 NO) .nil), [SY [0] hC .nil], fun d => qbq n d.1 d.2.1 d.2.2.1 d.2.2.2.1 d.2.2.2.2.1 d.2.2.2.2.2.1 d.2.2.2.2.2.2⟩
def qbq_ls (n : Nat) : List (Nat × aL) := [(0, ⟨[SN [1, 3, 4] PO Ps], [SX 0 [1, 3] Om Ps], qbq_W0 n⟩), (2, ⟨[SN [1, 3, 5] PO Ps], [SX 2 [3] hX Ps], qbq_W2 n⟩)]
theorem qbq_ok (n : Nat) : aM Tryz.prog 20 (qbq_E n) :=
 aM.bS n zz Tryz.f20 { live := [(0, [1, 3, 4]), (2, [1, 3, 5])] } (qbq_ls n) .e (.k (fun _ => rfl) (fun _ => by kernel_rfl) (.k (fun _ => rfl) (fun _ => by kernel_rfl) .e)) (by kernel_rfl) (by kernel_rfl) fun _ => by kernel_rfl
def qce_E (n : Nat) : aG := ⟨(SN [0, 1] PC .nil), [SY [0] hC .nil], fun d => qce n d.1 d.2⟩
def qce_ls (n : Nat) : List (Nat × aL) := [(0, ⟨[SN [0, 1, 5] (u3 hM hM hA) .nil], [SY [4] hC .nil, SX 0 [] .nil .nil], qce_W0 n⟩)]
theorem qce_ok (n : Nat) : aM Tryz.prog 51 (qce_E n) :=
 aM.bS n zz Tryz.f51 { live := [(0, [0, 1, 5])] } (qce_ls n) (.k (qdu_ok n) .e) (.k (fun _ => rfl) (fun _ => by kernel_rfl) .e) (by kernel_rfl) (by kernel_rfl) fun _ => by kernel_rfl
def qca_E (n : Nat) : aG := ⟨(SN [0, 1] (u2 JJ hU) .nil), [SY [0] hC .nil], fun d => qca n d.1.1 d.1.2.1 d.1.2.2.1 d.1.2.2.2.1 d.1.2.2.2.2 d.2⟩
def qca_ls (n : Nat) : List (Nat × aL) := [(4, ⟨[SN [1, 2, 5, 6, 7, 8, 9, 11] (u8 hU hW hA hV hA hS NV hA) vA], [SY [4] hC vA, SX 4 [1, 2, 5, 6, 7] (u5 hU hW hA hV hA) vA], qca_W4 n⟩), (2, ⟨[SN [1, 2, 5, 6, 7] (u5 hU hW hA hV hA) vA], [SY [4] hC vA, SX 2 [1, 2, 5] (u3 hU hW hA) vA], qca_W2 n⟩), (0, ⟨[SN [1, 2, 5] (u3 hU hW hA) vA], [SY [4] hC vA, SX 0 [] .nil vA], qca_W0 n⟩)]
theorem qca_ok (n : Nat) : aM Tryz.prog 21 (qca_E n) :=
 aM.bS n zz Tryz.f21 { live := [(0, [1, 2, 5]), (2, [1, 2, 5, 6, 7]), (4, [1, 2, 5, 6, 7, 8, 9, 11])] } (qca_ls n) (.k (qdn_ok n) (.k (qdo_ok n) (.k (qce_ok n) .e))) (.k (fun _ => rfl) (fun _ => by kernel_rfl) (.k (fun _ => rfl) (fun _ => by kernel_rfl) (.k (fun _ => rfl) (fun _ => by kernel_rfl) .e))) (by kernel_rfl) (by kernel_rfl) fun _ => by kernel_rfl
def qdr_E (n : Nat) : aG := ⟨(SN [0, 1, 2] (u3 NO hB Mv) .nil), [SY [0] hC .nil], fun d => qdr n d.1 d.2.1 d.2.2.1 d.2.2.2⟩
theorem qdr_ok (n : Nat) : aM Tryz.prog 93 (qdr_E n) :=
 aM.bS n zz Tryz.f93 {} [] .e .e (by kernel_rfl) (by kernel_rfl) fun _ => by kernel_rfl
def qdy_E (n : Nat) : aG := ⟨(SN [0, 1, 2] (u3 NO BP hM) .nil), [SY [0] hC .nil], fun d => qdy n d.1 d.2.1 d.2.2⟩
def qdy_ls (n : Nat) : List (Nat × aL) := [(0, ⟨[SN [1, 2, 3, 7] (u4 BP hM hW hA) Ps], [SY [6] hC Ps, SX 0 [] .nil Ps], qdy_W0 n⟩)]
theorem qdy_ok (n : Nat) : aM Tryz.prog 52 (qdy_E n) :=
 aM.bS n zz Tryz.f52 { live := [(0, [1, 2, 3, 7])] } (qdy_ls n) (.k (qdr_ok n) .e) (.k (fun _ => rfl) (fun _ => by kernel_rfl) .e) (by kernel_rfl) (by kernel_rfl) fun _ => by kernel_rfl
def qbs_E (n : Nat) : aG := ⟨(SN [0, 1, 2, 3] (u4 JJ hU NO hA) .nil), [SY [0] (u1 (.tup (u2 hM .bool))) .nil], fun d => qbs n d.1.1 d.1.2.1 d.1.2.2.1 d.1.2.2.2.1 d.1.2.2.2.2 d.2.1 d.2.2.1 d.2.2.2⟩
theorem qbs_ok (n : Nat) : aM Tryz.prog 53 (qbs_E n) :=
 aM.bS n zz Tryz.f53 {} [] .e .e (by kernel_rfl) (by kernel_rfl) fun _ => by kernel_rfl
def qch_E (n : Nat) : aG := ⟨(SN [0, 1, 2] Qk .nil), [SY [0] hC .nil], fun d => qch n d.1.1 d.1.2.1 d.1.2.2.1 d.1.2.2.2.1 d.1.2.2.2.2 d.2.1 d.2.2⟩
def qch_ls (n : Nat) : List (Nat × aL) := [(0, ⟨[SN [1, 3, 5, 7] QD O9], [SY [6] hC O9, SX 0 [1, 3, 5] (u3 hU hW hZ) O9], qch_W0 n⟩), (2, ⟨[SN [1, 3, 5, 8] QD O9], [SY [6] hC (u3 Fa NR Qx), SX 2 [1, 3, 5] (u3 hU hW hZ) O9], qch_W2 n⟩), (5, ⟨[SN [1, 3, 5, 10] QD O9], [SY [6] hC O9, SY [6] hC (u4 Fa NR PJ (.bts 2 false false true yD)), SX 5 [] .nil O9], qch_W5 n⟩)]
theorem qch_ok (n : Nat) : aM Tryz.prog 22 (qch_E n) :=
 aM.bS n zz Tryz.f22 { live := [(0, [1, 3, 5, 7]), (2, [1, 3, 5, 8]), (5, [1, 3, 5, 10])], boxed := [(27, 7), (27, 10)] } (qch_ls n) (.k (qdy_ok n) (.k (qbs_ok n) .e)) (.k (fun _ => rfl) (fun _ => by kernel_rfl) (.k (fun _ => rfl) (fun _ => by kernel_rfl) (.k (fun _ => rfl) (fun _ => by kernel_rfl) .e))) (by kernel_rfl) (by kernel_rfl) fun _ => by kernel_rfl
def Af (n : Nat) : aG := ⟨(SN [0, 1, 2] Qk .nil), [SY [0] hC .nil], fun d => gZ n d.1.1 d.1.2.1 d.1.2.2.1 d.1.2.2.2.1 d.1.2.2.2.2 d.2.1 d.2.2⟩
theorem wM (n : Nat) : aM Tryz.prog 4 (Af n) :=
 aM.bS n zz Tryz.f4 {} [] (.k (qcg_ok n) (.k (qaz_ok n) (.k (qbq_ok n) (.k (qca_ok n) (.k (qch_ok n) (.k (nQ n) .e)))))) .e (by kernel_rfl) (by kernel_rfl) fun _ => by kernel_rfl
def Al (n : Nat) : aG := ⟨(SN [0, 1, 2, 3, 4] (u5 JJ hA hB hR (.int .u16)) .nil), [SY [0] hC .nil], fun d => i0 n d.1.1 d.1.2.1 d.1.2.2.1 d.1.2.2.2.1 d.1.2.2.2.2 d.2.1 d.2.2.1 d.2.2.2.1 d.2.2.2.2⟩
def w7 (n : Nat) : List (Nat × aL) := [(0, ⟨[SN [3, 5, 11, 13, 14, 15] (u6 hR hW hT hZ .bool hA) Q2], [SX 0 [5, 11, 13, 14] (u4 hW hT hZ .bool) Q2], cB n⟩)]
theorem zK (n : Nat) : aM Tryz.prog 5 (Al n) :=
 aM.bS n zz Tryz.f5 { live := [(0, [3, 5, 11, 13, 14, 15])] } (w7 n) (.k (qcg_ok n) (.k (qaz_ok n) (.k (qdn_ok n) (.k (qdp_ok n) (.k (nQ n) .e))))) (.k (fun _ => rfl) (fun _ => by kernel_rfl) .e) (by kernel_rfl) (by kernel_rfl) fun _ => by kernel_rfl
end
end Sx
