import Derived.Test.YtdlbbdbbpoggfaaProg
import Derived.Test.YtdlbbdbbpoggfaaLib34
import Derived.Test.YtdlbbdbbpoggfaaMbSh
open Go Go.Ab Go.Proofs
set_option linter.unusedVariables false
set_option maxRecDepth 20000
namespace Sx
noncomputable section
abbrev yA : Ty := (.cons (.sl true (.cons (.int .i64) (.int .i64))) (.cons (.int .i64) (.cons (.int .i64) (.cons (.sl true (.cons (.int .i64) (.int .i64))) (.sl true (.cons (.int .i64) (.cons (.int .i64) (.int .i64))))))))
abbrev yB : Ty := (.sl true (.cons (.int .i64) (.int .i64)))
abbrev yC : Ty := (.cons (.sl true (.cons (.int .i64) (.int .i64))) (.cons (.int .i64) (.int .i64)))
abbrev yD : Ty := (.cons (.int .i64) (.int .i64))
abbrev yE : Ty := (.cons (.int .i64) (.cons (.int .i64) (.int .i64)))
abbrev yF : Ty := (.sl false (.int .u8))
def PI : DG := []
instance gTab : b4 := ⟨fun g => eE g PI⟩
abbrev xA : Ty := .int .i64
abbrev xB : Ty := .sl false (.int .u64)
abbrev xC : Ty := .sl false (.int .u8)
abbrev xD : Ty := .sl true (.cons xA xA)
abbrev xE : Ty := .cons xA (.cons (.int .u64) .bool)
abbrev xF : Ty := .sl true (.cons xA (.cons xA xA))
abbrev xG : Ty := .sl true (.cons xD (.cons xA xA))
abbrev xH : Ty := .cons xA (.cons xA (.cons xB xB))
abbrev xI : Ty := .cons xA (.cons xA (.cons xB xC))
abbrev xJ : Ty := .cons xD (.cons xA (.cons xA (.cons xD xF)))
abbrev zi : Value := .int .i64 0
abbrev zl : Value := .slice none 0 0
abbrev zu : Value := .int .u64 0
abbrev zp : Value := .pointer none
abbrev zt : Value := .string (ByteArray.mk (List.toArray []))
def tA : TI := ⟨.int .i64, 1, 8, false, some xA, false, [zi]⟩
def tB : TI := ⟨.bool, 1, 1, false, some .bool, false, [.bool false]⟩
def tC : TI := ⟨.int .u8, 1, 1, false, some (.int .u8), false, [.int .u8 0]⟩
def tD : TI := ⟨.st [(0, 1, 2), (1, 1, 3), (2, 1, 4), (3, 1, 6)], 4, 24, true, some (.cons xA (.cons xA (.cons .bool (.int .u8)))), true, [zi, zi, .bool false, .int .u8 0]⟩
def tE : TI := ⟨.str, 1, 16, false, some .str, false, [zt]⟩
def tF : TI := ⟨.int .u64, 1, 8, false, some (.int .u64), false, [zu]⟩
def tG : TI := ⟨.st [(0, 1, 9), (1, 1, 12)], 2, 24, true, some (.cons .str (.int .u64)), false, [zt, zu]⟩
def tH : TI := ⟨.ptr, 1, 8, false, none, false, [zp]⟩
def tI : TI := ⟨.st [(0, 1, 17)], 1, 8, true, none, false, [zp]⟩
def tJ : TI := ⟨.int .i32, 1, 4, false, some (.int .i32), false, [.int .i32 0]⟩
def tK : TI := ⟨.st [(0, 1, 3), (1, 1, 3)], 2, 16, true, some (.cons xA xA), true, [zi, zi]⟩
def tL : TI := ⟨.sl 23, 1, 24, false, some xD, false, [zl]⟩
def tM : TI := ⟨.sl 40, 1, 24, false, some xF, false, [zl]⟩
def tN : TI := ⟨.st [(0, 1, 24), (1, 2, 23), (3, 1, 24), (4, 1, 25)], 5, 88, true, some xJ, false, [zl, zi, zi, zl, zl]⟩
def tO : TI := ⟨.sl 27, 1, 24, false, some (.sl true xJ), false, [zl]⟩
def tP : TI := ⟨.sl 24, 1, 24, false, some (.sl false xD), false, [zl]⟩
def tQ : TI := ⟨.sl 38, 1, 24, false, some xG, false, [zl]⟩
def tR : TI := ⟨.sl 36, 1, 24, false, some xB, false, [zl]⟩
def tS : TI := ⟨.sl 9, 1, 24, false, some (.sl false .str), false, [zl]⟩
def tT : TI := ⟨.st [(0, 1, 29), (1, 1, 28), (2, 1, 30), (3, 1, 31), (4, 1, 32)], 5, 120, true, some (.cons (.sl false xD) (.cons (.sl true xJ) (.cons xG (.cons xB (.sl false .str))))), false, [zl, zl, zl, zl, zl]⟩
def tU : TI := ⟨.sl 3, 1, 24, false, some (.sl false xA), false, [zl]⟩
def tV : TI := ⟨.st [(0, 1, 24), (1, 2, 23)], 3, 40, true, some (.cons xD (.cons xA xA)), false, [zl, zi, zi]⟩
def tW : TI := ⟨.st [(0, 1, 3), (1, 1, 3), (2, 1, 3)], 3, 24, true, some (.cons xA (.cons xA xA)), true, [zi, zi, zi]⟩
def tX : TI := ⟨.sl 54, 1, 24, false, some (.sl true xH), false, [zl]⟩
def tY : TI := ⟨.sl 57, 1, 24, false, some (.sl true xI), false, [zl]⟩
def tZ : TI := ⟨.sl 59, 1, 24, false, some (.sl true xE), false, [zl]⟩
def Qq : TI := ⟨.st [(0, 1, 45), (1, 1, 46), (2, 1, 47), (3, 1, 3), (4, 1, 3), (5, 1, 3), (6, 1, 36)], 7, 104, true, some (.cons (.sl true xH) (.cons (.sl true xI) (.cons (.sl true xE) (.cons xA (.cons xA (.cons xA (.int .u64))))))), false, [zl, zl, zl, zi, zi, zi, zu]⟩
def QJ : TI := ⟨.st [(0, 1, 3), (1, 1, 3), (2, 1, 31), (3, 1, 31)], 4, 64, true, some xH, false, [zi, zi, zl, zl]⟩
def QQ : TI := ⟨.sl 5, 1, 24, false, some xC, false, [zl]⟩
def Qp : TI := ⟨.st [(0, 1, 3), (1, 1, 3), (2, 1, 31), (3, 1, 55)], 4, 64, true, some xI, false, [zi, zi, zl, zl]⟩
def Ql : TI := ⟨.st [(0, 1, 3), (1, 1, 36), (2, 1, 4)], 3, 24, true, some xE, true, [zi, zu, .bool false]⟩
def Q4 : TI := ⟨.sl 55, 1, 24, false, some (.sl false xC), false, [zl]⟩
def QO : TI := ⟨.int .u32, 1, 4, false, some (.int .u32), false, [.int .u32 0]⟩
def QA : TI := ⟨.st [(0, 1, 55)], 1, 24, true, some xC, false, [zl]⟩
def Qx : TI := ⟨.st [(0, 1, 118), (1, 1, 3), (2, 1, 4)], 3, 24, true, none, false, [zp, zi, .bool false]⟩
def QT : TI := ⟨.arr 2 3, 2, 16, true, none, false, [zi, zi]⟩
def QE : TI := ⟨.st [(0, 1, 55), (1, 1, 4)], 2, 32, true, some (.cons xC .bool), false, [zl, .bool false]⟩
def QW : TI := ⟨.arr 2 36, 2, 16, true, none, false, [zu, zu]⟩
def QB : TI := ⟨.st [(0, 1, 17), (1, 1, 17), (2, 1, 17), (3, 1, 9)], 4, 40, true, none, false, [zp, zp, zp, zt]⟩
def Q9 : TI := ⟨.arr 0 16, 0, 0, true, none, false, []⟩
def QI : TI := ⟨.st [(0, 0, 172)], 0, 0, true, none, false, []⟩
def Q0 : TI := ⟨.other, 1, 8, false, none, false, [zp]⟩
def PF : List (Nat × TI) := [(2, tA), (3, tA), (4, tB), (5, tC), (6, tC), (7, tD), (8, tD), (9, tE), (10, tE), (11, tE), (12, tF), (13, tG), (14, tG), (15, tH), (16, tH), (17, tH), (18, tI), (19, tI), (21, tJ), (22, tK), (23, tK), (24, tL), (25, tM), (26, tN), (27, tN), (28, tO), (29, tP), (30, tQ), (31, tR), (32, tS), (33, tT), (34, tT), (35, tU), (36, tF), (37, tV), (38, tV), (39, tW), (40, tW), (41, tA), (45, tX), (46, tY), (47, tZ), (48, Qq), (49, Qq), (53, QJ), (54, QJ), (55, QQ), (56, Qp), (57, Qp), (58, Ql), (59, Ql), (84, Q4), (88, QO), (107, tH), (108, QA), (109, QA), (117, tH), (118, tH), (120, Qx), (121, Qx), (150, tF), (152, QT), (156, QE), (157, QE), (169, QW), (170, QB), (171, QB), (172, Q9), (173, QI), (174, QI), (175, tC), (176, tC), (178, tH), (179, tJ), (180, tJ), (183, Q0)]
def tab : TypeId → Option TI := fun t => eE t PF
theorem Ob : bG Try.prog tab := (show bG Try.prog (fun t => eE t PF) from bG.of_list _ (by kernel_rfl))
theorem Dj : nT Try.prog = true := by kernel_rfl
theorem Eu : Try.prog.follows .mixedOrders = true := by kernel_rfl
theorem zz : P6 Try.prog tab := ⟨Dj, Eu, Ob⟩
abbrev hA : Sh := .int .i64
abbrev hB : Sh := .int .u64
abbrev hC : Sh := .msw 2 0
abbrev hD : Sh := .msw 3 0
abbrev hE : Sh := u1 .bool
abbrev hF : Sh := .msw 0 0
abbrev hG : Sh := .sl true false yB
abbrev hH : Sh := .sl true true yA
abbrev hI : Sh := .sl true true yC
abbrev hJ : Sh := .sl true false .str
abbrev hK : Sh := .sl true true yD
abbrev hL : Sh := .sl true true yE
abbrev hM : Sh := .sl false false yB
abbrev hN : Sh := .sl false true yA
abbrev hO : Sh := .sl false true yC
abbrev hP : Sh := .sl false true yD
abbrev hQ : Sh := .ptr 0 0 0 0
abbrev hR : Sh := .ptr 1 0 0 0
abbrev hS : Sh := u1 hA
abbrev hT : Sh := u1 (.tup .nil)
abbrev hU : Sh := .ptr 2 0 0 0
abbrev hV : Sh := u1 (.int .u32)
abbrev hW : Sh := .bts 0 false false true yA
abbrev hX : Sh := .bts 0 false false false yB
abbrev hY : Sh := .sl true false (.int .u64)
abbrev hZ : Sh := .sl false false (.int .u8)
abbrev OE : Sh := .sl true false (.int .u8)
abbrev P5 : Sh := .sl false false (.int .u64)
abbrev Qc : Sh := .bts 0 false false true yC
abbrev P8 : Sh := .bts 0 false false false .str
abbrev pD : Sh := u1 hQ
abbrev PY : Sh := .bts 0 false false false (.int .u8)
abbrev Qh : Sh := .bts 0 false false false (.int .u64)
abbrev On : Sh := u1 hZ
abbrev Pb : Sh := u2 (.int .u8) (.int .u8)
abbrev Pu : Sh := u1 PY
abbrev PN : Sh := .agg (u2 hA hA)
abbrev Qa : Sh := u2 (.sl false false yF) hA
abbrev Ok : Sh := .bcells 0 false 1 (u1 (.sl false false yF))
abbrev rV : Sh := u1 (.bcells 0 false 1 hS)
abbrev PC : Sh := u2 hQ hA
abbrev Pg : Sh := .bcells 0 false 1 pD
abbrev O4 : Sh := .bcells 0 false 1 (u2 hA hA)
abbrev C9 : Sh := .bcells 0 false 1 (u2 hZ .bool)
abbrev N1 : Sh := u3 hA hR hA
abbrev Qb : Sh := .agg (u3 hK hA hA)
abbrev Qe : Sh := u1 (.agg (u3 hA hA hA))
abbrev HA : Sh := u1 C9
abbrev Qu : Sh := .bcells 0 false 1 (u5 .nilS .nilS .nilS .nilS .nilS)
abbrev PH : Sh := u3 hA hQ hR
abbrev PE : Sh := .bcells 0 false 1 (u3 (.ptr 3 0 0 0) hA .bool)
abbrev O7 : Sh := .bcells 0 false 1 (u3 hU hA .bool)
abbrev Pc : Sh := .bcells 0 false 1 (u3 hR hA .bool)
abbrev PA : Sh := .bcells 0 false 1 (u3 hK hA hA)
abbrev QG : Sh := .bcells 0 false 1 (u5 .nilS hC .nilS .nilS .nilS)
abbrev PT : Sh := .bcells 0 false 1 (u5 hM .nilS .nilS .nilS .nilS)
abbrev KG : Sh := u2 (.bcells 0 false 1 (u1 (.msw 1 0))) PY
abbrev PZ : Sh := u2 (.bcells 0 false 1 (u1 (.msw 1 1))) (.bts 1 false false false (.int .u8))
abbrev Qo : Sh := .bcells 0 false 1 (u5 hM hN .nilS .nilS .nilS)
abbrev Qi : Sh := u2 C9 (.bts 0 false false false yF)
abbrev QC : Sh := .bcells 0 false 1 (u5 hM hN hO .nilS .nilS)
abbrev PU : Sh := .agg (u5 hK hA hA hK hL)
abbrev Oj : Sh := u6 (.int .u8) hQ hA hR hA hA
abbrev QD : Sh := .bcells 0 false 1 (u5 hK hA hA hK hL)
abbrev Qm : Sh := .bcells 0 false 1 (u5 hM hN hO P5 .nilS)
abbrev Qf : Sh := .agg (u5 hG hH hI hY hJ)
abbrev O5 : Sh := u1 Qf
abbrev Io : Sh := u2 Pc C9
abbrev Om : Sh := u3 O4 QG hW
abbrev Qw : Sh := u3 Pc C9 (.bts 0 false false true yD)
abbrev Qn : Sh := u3 Pc C9 (.bts 0 false false true yE)
abbrev Pz : Sh := u3 O7 Pg C9
abbrev PB : Sh := u3 (.bcells 0 false 1 (u1 hR)) O7 C9
abbrev P4 : Sh := u3 C9 (.bcells 0 false 1 (u3 hA hA hA)) (.bcells 0 false 1 (u2 hB hB))
abbrev Qy : Sh := u4 O4 (.bcells 0 false 1 (u5 hC hD .nilS .nilS .nilS)) hX hW
abbrev Qv : Sh := u4 O4 (.bcells 0 false 1 (u5 .nilS hC hD .nilS .nilS)) hW Qc
abbrev Qz : Sh := u4 O4 (.bcells 0 false 1 (u5 .nilS hC .nilS .nilS hD)) hW P8
abbrev Qt : Sh := u4 O4 (.bcells 0 false 1 (u5 .nilS hC .nilS hD .nilS)) hW Qh
abbrev P0 : Sh := u3 O4 QG (.bos 0 false (.cons (.sl true (.cons (.int .i64) (.int .i64))) (.cons (.int .i64) (.cons (.int .i64) (.cons (.sl true (.cons (.int .i64) (.int .i64))) (.sl true (.cons (.int .i64) (.cons (.int .i64) (.int .i64)))))))) .nil)
def qbw_E (n : Nat) : aC := ⟨(SN [0, 1] (u2 PN hA) .nil), [SY [0] hE .nil], fun d => qbw n d.1.1 d.1.2 d.2⟩
theorem qbw_ok (n : Nat) : aW Try.prog 68 (qbw_E n) :=
 aW.bS n zz Try.f68 {} [] .e .e (by kernel_rfl) (by kernel_rfl) fun _ => by kernel_rfl
def qbn_E (n : Nat) : aC := ⟨(SN [0, 1] (u2 PN hQ) rV), [SY [0] hE rV], fun d => qbn n d.1.1 d.1.2 d.2⟩
theorem qbn_ok (n : Nat) : aW Try.prog 107 (qbn_E n) :=
 aW.bS n zz Try.f107 {} [] (.k (qbw_ok n) .e) .e (by kernel_rfl) (by kernel_rfl) fun _ => by kernel_rfl
def qat_E (n : Nat) : aC := ⟨(SN [0, 1] (u2 hK (.fn 107 .nil pD)) rV), [SY [0] hS rV], fun d => qat n d.1 d.2⟩
def qat_ls (n : Nat) : List (Nat × aL) := [(0, ⟨[SN [0, 1, 7, 8] (u4 hK (.fn 107 .nil pD) hA hA) rV], [SY [4] hS rV, SX 0 [] .nil rV], qat_W0 n⟩)]
theorem qat_ok (n : Nat) : aW Try.prog 52 (qat_E n) :=
 aW.bS n zz Try.f52 { live := [(0, [0, 1, 7, 8])] } (qat_ls n) (.k (qbn_ok n) .e) (.k (fun _ => rfl) (fun _ => by kernel_rfl) .e) (by kernel_rfl) (by kernel_rfl) fun _ => by kernel_rfl
def qt_E (n : Nat) : aC := ⟨(SN [0, 1] (u2 hK (.fn 107 .nil pD)) rV), [SY [0] hE rV], fun d => qt n d.1 d.2⟩
theorem qt_ok (n : Nat) : aW Try.prog 19 (qt_E n) :=
 aW.bS n zz Try.f19 {} [] (.k (qat_ok n) .e) .e (by kernel_rfl) (by kernel_rfl) fun _ => by kernel_rfl
def qbo_E (n : Nat) : aC := ⟨(SN [0, 1, 2] (u3 hK hA hA) .nil), [SY [0] hE .nil], fun d => qbo n d.1 d.2.1 d.2.2⟩
theorem qbo_ok (n : Nat) : aW Try.prog 63 (qbo_E n) :=
 aW.bS n zz Try.f63 {} [] (.k (qt_ok n) .e) .e (by kernel_rfl) (by kernel_rfl) fun _ => by kernel_rfl
def qbg_E (n : Nat) : aC := ⟨(SN [0, 1] (u2 hK hQ) rV), [SY [0] hE rV], fun d => qbg n d.1 d.2⟩
theorem qbg_ok (n : Nat) : aW Try.prog 62 (qbg_E n) :=
 aW.bS n zz Try.f62 {} [] (.k (qbo_ok n) .e) .e (by kernel_rfl) (by kernel_rfl) fun _ => by kernel_rfl
def qv_E (n : Nat) : aC := ⟨(SN [0, 1] (u2 hG (.fn 62 .nil pD)) rV), [SY [0] hS rV], fun d => qv n d.1 d.2⟩
def qv_ls (n : Nat) : List (Nat × aL) := [(0, ⟨[SN [0, 1, 7, 8] (u4 hG (.fn 62 .nil pD) hA hA) rV], [SY [4] hS rV, SX 0 [] .nil rV], qv_W0 n⟩)]
theorem qv_ok (n : Nat) : aW Try.prog 106 (qv_E n) :=
 aW.bS n zz Try.f106 { live := [(0, [0, 1, 7, 8])] } (qv_ls n) (.k (qbg_ok n) .e) (.k (fun _ => rfl) (fun _ => by kernel_rfl) .e) (by kernel_rfl) (by kernel_rfl) fun _ => by kernel_rfl
def qg_E (n : Nat) : aC := ⟨(SN [0, 1] (u2 hG (.fn 62 .nil pD)) rV), [SY [0] hE rV], fun d => qg n d.1 d.2⟩
theorem qg_ok (n : Nat) : aW Try.prog 61 (qg_E n) :=
 aW.bS n zz Try.f61 {} [] (.k (qv_ok n) .e) .e (by kernel_rfl) (by kernel_rfl) fun _ => by kernel_rfl
def qbv_E (n : Nat) : aC := ⟨(SN [0] hS .nil), [SY [0] hS .nil], fun d => qbv n d⟩
theorem qbv_ok (n : Nat) : aW Try.prog 111 (qbv_E n) :=
 aW.bS n zz Try.f111 {} [] .e .e (by kernel_rfl) (by kernel_rfl) fun _ => by kernel_rfl
def qcb_E (n : Nat) : aC := ⟨(SN [0, 1] (u2 hA .bool) .nil), [SY [0] hE .nil], fun d => qcb n d.1 d.2⟩
theorem qcb_ok (n : Nat) : aW Try.prog 112 (qcb_E n) :=
 aW.bS n zz Try.f112 {} [] .e .e (by kernel_rfl) (by kernel_rfl) fun _ => by kernel_rfl
def qce_E (n : Nat) : aC := ⟨(SN [0] (u1 hB) .nil), [SY [0] (u1 hF) Pu], fun d => qce n d⟩
def qce_ls (n : Nat) : List (Nat × aL) := [(0, ⟨[SN [0, 3] (u2 hB hF) Pu], [SX 0 [0, 3] (u2 hB hF) Pu], qce_W0 n⟩)]
theorem qce_ok (n : Nat) : aW Try.prog 71 (qce_E n) :=
 aW.b n zz Try.f71 { live := [(0, [0, 3])], boxed := [(0, 0), (1, 0), (4, 5), (5, 4)] } (qce_ls n) .e (.k (fun _ => rfl) (fun _ => by kernel_rfl) .e) (by kernel_rfl) (by kernel_rfl) fun _ => by kernel_rfl
def qcc_E (n : Nat) : aC := ⟨(SN [0] Qe .nil), [SY [0] On .nil], fun d => qcc n d.1 d.2.1 d.2.2⟩
def qcc_ls (n : Nat) : List (Nat × aL) := [(0, ⟨[SN [4, 39, 40, 41] (u4 hF (.ms 1 0) hA hA) (u2 PY O4)], [SX 0 [4] (u1 hF) (u2 PY O4)], qcc_W0 n⟩)]
theorem qcc_ok (n : Nat) : aW Try.prog 75 (qcc_E n) :=
 aW.bS n zz Try.f75 { live := [(0, [4, 39, 40, 41])], boxed := [(4, 3), (9, 4)] } (qcc_ls n) (.k (qbv_ok n) (.k (qcb_ok n) (.k (qce_ok n) .e))) (.k (fun _ => rfl) (fun _ => by kernel_rfl) .e) (by kernel_rfl) (by kernel_rfl) fun _ => by kernel_rfl
def qai_E (n : Nat) : aC := ⟨(SN [0] Qe .nil), [SY [0] hE .nil], fun d => qai n d.1 d.2.1 d.2.2⟩
theorem qai_ok (n : Nat) : aW Try.prog 109 (qai_E n) :=
 aW.bS n zz Try.f109 {} [] (.k (qcc_ok n) .e) .e (by kernel_rfl) (by kernel_rfl) fun _ => by kernel_rfl
def qah_E (n : Nat) : aC := ⟨(SN [0, 1] (u2 hL (.fn 109 .nil .nil)) .nil), [SY [0] hS .nil], fun d => qah n d⟩
def qah_ls (n : Nat) : List (Nat × aL) := [(0, ⟨[SN [0, 1, 7, 8] (u4 hL (.fn 109 .nil .nil) hA hA) .nil], [SY [4] hS .nil, SX 0 [] .nil .nil], qah_W0 n⟩)]
theorem qah_ok (n : Nat) : aW Try.prog 51 (qah_E n) :=
 aW.bS n zz Try.f51 { live := [(0, [0, 1, 7, 8])] } (qah_ls n) (.k (qai_ok n) .e) (.k (fun _ => rfl) (fun _ => by kernel_rfl) .e) (by kernel_rfl) (by kernel_rfl) fun _ => by kernel_rfl
def ql_E (n : Nat) : aC := ⟨(SN [0, 1] (u2 hL (.fn 109 .nil .nil)) .nil), [SY [0] hE .nil], fun d => ql n d⟩
theorem ql_ok (n : Nat) : aW Try.prog 18 (ql_E n) :=
 aW.bS n zz Try.f18 {} [] (.k (qah_ok n) .e) .e (by kernel_rfl) (by kernel_rfl) fun _ => by kernel_rfl
def qan_E (n : Nat) : aC := ⟨(SN [0, 1] (u2 PU hA) .nil), [SY [0] hE .nil], fun d => qan n d.1.1 d.1.2.1 d.1.2.2.1 d.1.2.2.2.1 d.1.2.2.2.2 d.2⟩
theorem qan_ok (n : Nat) : aW Try.prog 66 (qan_E n) :=
 aW.bS n zz Try.f66 {} [] (.k (qbo_ok n) (.k (qbw_ok n) (.k (ql_ok n) .e))) .e (by kernel_rfl) (by kernel_rfl) fun _ => by kernel_rfl
def qbf_E (n : Nat) : aC := ⟨(SN [0, 1] (u2 PU hQ) rV), [SY [0] hE rV], fun d => qbf n d.1.1 d.1.2.1 d.1.2.2.1 d.1.2.2.2.1 d.1.2.2.2.2 d.2⟩
theorem qbf_ok (n : Nat) : aW Try.prog 65 (qbf_E n) :=
 aW.bS n zz Try.f65 {} [] (.k (qan_ok n) .e) .e (by kernel_rfl) (by kernel_rfl) fun _ => by kernel_rfl
def qar_E (n : Nat) : aC := ⟨(SN [0, 1] (u2 hH (.fn 65 .nil pD)) rV), [SY [0] hS rV], fun d => qar n d.1 d.2⟩
def qar_ls (n : Nat) : List (Nat × aL) := [(0, ⟨[SN [0, 1, 7, 8] (u4 hH (.fn 65 .nil pD) hA hA) rV], [SY [4] hS rV, SX 0 [] .nil rV], qar_W0 n⟩)]
theorem qar_ok (n : Nat) : aW Try.prog 108 (qar_E n) :=
 aW.bS n zz Try.f108 { live := [(0, [0, 1, 7, 8])] } (qar_ls n) (.k (qbf_ok n) .e) (.k (fun _ => rfl) (fun _ => by kernel_rfl) .e) (by kernel_rfl) (by kernel_rfl) fun _ => by kernel_rfl
def qu_E (n : Nat) : aC := ⟨(SN [0, 1] (u2 hH (.fn 65 .nil pD)) rV), [SY [0] hE rV], fun d => qu n d.1 d.2⟩
theorem qu_ok (n : Nat) : aW Try.prog 64 (qu_E n) :=
 aW.bS n zz Try.f64 {} [] (.k (qar_ok n) .e) .e (by kernel_rfl) (by kernel_rfl) fun _ => by kernel_rfl
def qbi_E (n : Nat) : aC := ⟨(SN [0, 1] (u2 Qb hQ) rV), [SY [0] hE rV], fun d => qbi n d.1.1 d.1.2.1 d.1.2.2 d.2⟩
theorem qbi_ok (n : Nat) : aW Try.prog 67 (qbi_E n) :=
 aW.bS n zz Try.f67 {} [] (.k (qbo_ok n) (.k (qbw_ok n) .e)) .e (by kernel_rfl) (by kernel_rfl) fun _ => by kernel_rfl
def qac_E (n : Nat) : aC := ⟨(SN [0, 1] (u2 hI (.fn 67 .nil pD)) rV), [SY [0] hS rV], fun d => qac n d.1 d.2⟩
def qac_ls (n : Nat) : List (Nat × aL) := [(0, ⟨[SN [0, 1, 7, 8] (u4 hI (.fn 67 .nil pD) hA hA) rV], [SY [4] hS rV, SX 0 [] .nil rV], qac_W0 n⟩)]
theorem qac_ok (n : Nat) : aW Try.prog 53 (qac_E n) :=
 aW.bS n zz Try.f53 { live := [(0, [0, 1, 7, 8])] } (qac_ls n) (.k (qbi_ok n) .e) (.k (fun _ => rfl) (fun _ => by kernel_rfl) .e) (by kernel_rfl) (by kernel_rfl) fun _ => by kernel_rfl
def qf_E (n : Nat) : aC := ⟨(SN [0, 1] (u2 hI (.fn 67 .nil pD)) rV), [SY [0] hE rV], fun d => qf n d.1 d.2⟩
theorem qf_ok (n : Nat) : aW Try.prog 24 (qf_E n) :=
 aW.bS n zz Try.f24 {} [] (.k (qac_ok n) .e) .e (by kernel_rfl) (by kernel_rfl) fun _ => by kernel_rfl
def qbm_E (n : Nat) : aC := ⟨(SN [0] (u1 .str) .nil), [SY [0] hE .nil], fun d => qbm n d⟩
theorem qbm_ok (n : Nat) : aW Try.prog 70 (qbm_E n) :=
 aW.bS n zz Try.f70 {} [] .e .e (by kernel_rfl) (by kernel_rfl) fun _ => by kernel_rfl
def qw_E (n : Nat) : aC := ⟨(SN [0, 1] (u2 hJ (.fn 70 .nil .nil)) .nil), [SY [0] hS .nil], fun d => qw n d⟩
def qw_ls (n : Nat) : List (Nat × aL) := [(0, ⟨[SN [0, 1, 7, 8] (u4 hJ (.fn 70 .nil .nil) hA hA) .nil], [SY [4] hS .nil, SX 0 [] .nil .nil], qw_W0 n⟩)]
theorem qw_ok (n : Nat) : aW Try.prog 110 (qw_E n) :=
 aW.bS n zz Try.f110 { live := [(0, [0, 1, 7, 8])] } (qw_ls n) (.k (qbm_ok n) .e) (.k (fun _ => rfl) (fun _ => by kernel_rfl) .e) (by kernel_rfl) (by kernel_rfl) fun _ => by kernel_rfl
def qh_E (n : Nat) : aC := ⟨(SN [0, 1] (u2 hJ (.fn 70 .nil .nil)) .nil), [SY [0] hE .nil], fun d => qh n d⟩
theorem qh_ok (n : Nat) : aW Try.prog 69 (qh_E n) :=
 aW.bS n zz Try.f69 {} [] (.k (qw_ok n) .e) .e (by kernel_rfl) (by kernel_rfl) fun _ => by kernel_rfl
def qbq_E (n : Nat) : aC := ⟨(SN [0] O5 .nil), [SY [0] hE .nil], fun d => qbq n d.1 d.2.1 d.2.2.1 d.2.2.2.1 d.2.2.2.2⟩
theorem qbq_ok (n : Nat) : aW Try.prog 40 (qbq_E n) :=
 aW.bS n zz Try.f40 {} [] (.k (qg_ok n) (.k (qu_ok n) (.k (qf_ok n) (.k (qh_ok n) .e)))) .e (by kernel_rfl) (by kernel_rfl) fun _ => by kernel_rfl
def qp_E (n : Nat) : aC := ⟨(SN [0, 1] PC (u1 (.bcells 0 false 1 (u1 .nilS)))), [SY [0] hT KG], fun d => qp n d⟩
theorem qp_ok (n : Nat) : aW Try.prog 72 (qp_E n) :=
 aW.bS n zz Try.f72 { boxed := [(0, 8)] } [] (.k (qce_ok n) .e) .e (by kernel_rfl) (by kernel_rfl) fun _ => by kernel_rfl
def qb_E (n : Nat) : aC := ⟨(SN [0, 1] PC KG), [SY [0] hT PZ], fun d => qb n d.1 d.2⟩
theorem qb_ok (n : Nat) : aW Try.prog 72 (qb_E n) :=
 aW.bS n zz Try.f72 { boxed := [(0, 8)] } [] (.k (qce_ok n) .e) .e (by kernel_rfl) (by kernel_rfl) fun _ => by kernel_rfl
def qca_E (n : Nat) : aC := ⟨(SN [0] (u1 PN) .nil), [SY [0] On .nil], fun d => qca n d.1 d.2⟩
theorem qca_ok (n : Nat) : aW Try.prog 74 (qca_E n) :=
 aW.bS n zz Try.f74 { raw := [(1, 4)] } [] (.k (qce_ok n) .e) .e (by kernel_rfl) (by kernel_rfl) fun _ => by kernel_rfl
def qn_E (n : Nat) : aC := ⟨(SN [0, 1] (u2 hQ hK) KG), [SY [0] hT PZ], fun d => qn n d.1 d.2⟩
def qn_ls (n : Nat) : List (Nat × aL) := [(0, ⟨[SN [0, 10, 11, 12] (u4 hQ hK hA hA) PZ], [SX 0 [] .nil PZ], qn_W0 n⟩)]
theorem qn_ok (n : Nat) : aW Try.prog 73 (qn_E n) :=
 aW.bS n zz Try.f73 { live := [(0, [0, 10, 11, 12])], boxed := [(4, 7)] } (qn_ls n) (.k (qb_ok n) (.k (qca_ok n) .e)) (.k (fun _ => rfl) (fun _ => by kernel_rfl) .e) (by kernel_rfl) (by kernel_rfl) fun _ => by kernel_rfl
def qav_E (n : Nat) : aC := ⟨(SN [0] O5 .nil), [SY [0] On .nil], fun d => qav n d.1 d.2.1 d.2.2.1 d.2.2.2.1 d.2.2.2.2⟩
def qav_ls (n : Nat) : List (Nat × aL) := [(0, ⟨[SN [3, 14, 15, 16] (u4 hQ hG hA hA) KG], [SX 0 [3] pD KG], qav_W0 n⟩)]
theorem qav_ok (n : Nat) : aW Try.prog 42 (qav_E n) :=
 aW.bS n zz Try.f42 { live := [(0, [3, 14, 15, 16])] } (qav_ls n) (.k (qp_ok n) (.k (qn_ok n) .e)) (.k (fun _ => rfl) (fun _ => by kernel_rfl) .e) (by kernel_rfl) (by kernel_rfl) fun _ => by kernel_rfl
def qz_E (n : Nat) : aC := ⟨(SN [0] O5 .nil), [SY [0] On .nil], fun d => qz n d.1 d.2.1 d.2.2.1 d.2.2.2.1 d.2.2.2.2⟩
def qz_ls (n : Nat) : List (Nat × aL) := [(2, ⟨[SN [3, 16, 17, 18, 47, 48, 49] (u7 hQ hH hA hA hL hA hA) KG], [SX 2 [3, 16, 17, 18] (u4 hQ hH hA hA) KG], qz_W2 n⟩), (0, ⟨[SN [3, 16, 17, 18] (u4 hQ hH hA hA) KG], [SX 0 [3] pD KG], qz_W0 n⟩)]
theorem qz_ok (n : Nat) : aW Try.prog 43 (qz_E n) :=
 aW.bS n zz Try.f43 { live := [(0, [3, 16, 17, 18]), (2, [3, 16, 17, 18, 47, 48, 49])], boxed := [(7, 8), (13, 7)] } (qz_ls n) (.k (qp_ok n) (.k (qb_ok n) (.k (qn_ok n) (.k (qca_ok n) (.k (qcc_ok n) .e))))) (.k (fun _ => rfl) (fun _ => by kernel_rfl) (.k (fun _ => rfl) (fun _ => by kernel_rfl) .e)) (by kernel_rfl) (by kernel_rfl) fun _ => by kernel_rfl
def qam_E (n : Nat) : aC := ⟨(SN [0] O5 .nil), [SY [0] On .nil], fun d => qam n d.1 d.2.1 d.2.2.1 d.2.2.2.1 d.2.2.2.2⟩
def qam_ls (n : Nat) : List (Nat × aL) := [(0, ⟨[SN [3, 14, 15, 16] (u4 hQ hI hA hA) KG], [SX 0 [3] pD KG], qam_W0 n⟩)]
theorem qam_ok (n : Nat) : aW Try.prog 44 (qam_E n) :=
 aW.bS n zz Try.f44 { live := [(0, [3, 14, 15, 16])], boxed := [(7, 8)] } (qam_ls n) (.k (qp_ok n) (.k (qn_ok n) (.k (qca_ok n) .e))) (.k (fun _ => rfl) (fun _ => by kernel_rfl) .e) (by kernel_rfl) (by kernel_rfl) fun _ => by kernel_rfl
def qby_E (n : Nat) : aC := ⟨(SN [0, 1] (u2 hB hA) .nil), [SY [0] On .nil], fun d => qby n d.1 d.2⟩
def qby_ls (n : Nat) : List (Nat × aL) := [(0, ⟨[SN [0, 5, 9, 10] (u4 hB hF hA hA) Pu], [SX 0 [5] (u1 hF) Pu], qby_W0 n⟩)]
theorem qby_ok (n : Nat) : aW Try.prog 76 (qby_E n) :=
 aW.bS n zz Try.f76 { live := [(0, [0, 5, 9, 10])], boxed := [(1, 0), (5, 7)] } (qby_ls n) .e (.k (fun _ => rfl) (fun _ => by kernel_rfl) .e) (by kernel_rfl) (by kernel_rfl) fun _ => by kernel_rfl
def qap_E (n : Nat) : aC := ⟨(SN [0] O5 .nil), [SY [0] On .nil], fun d => qap n d.1 d.2.1 d.2.2.1 d.2.2.2.1 d.2.2.2.2⟩
def qap_ls (n : Nat) : List (Nat × aL) := [(0, ⟨[SN [3, 14, 15, 16] (u4 hQ hY hA hA) KG], [SX 0 [3] pD KG], qap_W0 n⟩)]
theorem qap_ok (n : Nat) : aW Try.prog 45 (qap_E n) :=
 aW.bS n zz Try.f45 { live := [(0, [3, 14, 15, 16])], boxed := [(6, 7)] } (qap_ls n) (.k (qp_ok n) (.k (qby_ok n) .e)) (.k (fun _ => rfl) (fun _ => by kernel_rfl) .e) (by kernel_rfl) (by kernel_rfl) fun _ => by kernel_rfl
def qbl_E (n : Nat) : aC := ⟨(SN [0] O5 .nil), [SY [0] On .nil], fun d => qbl n d.1 d.2.1 d.2.2.1 d.2.2.2.1 d.2.2.2.2⟩
def qbl_ls (n : Nat) : List (Nat × aL) := [(0, ⟨[SN [3, 14, 15, 16] (u4 hQ hJ hA hA) KG], [SX 0 [3] pD KG], qbl_W0 n⟩)]
theorem qbl_ok (n : Nat) : aW Try.prog 46 (qbl_E n) :=
 aW.bS n zz Try.f46 { live := [(0, [3, 14, 15, 16])], boxed := [(7, 6)] } (qbl_ls n) (.k (qp_ok n) (.k (qb_ok n) .e)) (.k (fun _ => rfl) (fun _ => by kernel_rfl) .e) (by kernel_rfl) (by kernel_rfl) fun _ => by kernel_rfl
def qbx_E (n : Nat) : aC := ⟨(SN [0] (u1 (.sl true false yF)) .nil), [SY [0] On .nil], fun d => qbx n d⟩
def qbx_ls (n : Nat) : List (Nat × aL) := [(0, ⟨[SN [3, 10, 11, 12] (u4 hF (.sl true false yF) hA hA) Pu], [SX 0 [3] (u1 hF) Pu], qbx_W0 n⟩)]
theorem qbx_ok (n : Nat) : aW Try.prog 41 (qbx_E n) :=
 aW.bS n zz Try.f41 { live := [(0, [3, 10, 11, 12])], boxed := [(5, 5), (6, 2)], raw := [(1, 3)] } (qbx_ls n) (.k (qce_ok n) .e) (.k (fun _ => rfl) (fun _ => by kernel_rfl) .e) (by kernel_rfl) (by kernel_rfl) fun _ => by kernel_rfl
def qay_E (n : Nat) : aC := ⟨(SN [0] O5 .nil), [SY [0] (u1 (.tup (u2 hZ hA))) .nil], fun d => qay n d.1 d.2.1 d.2.2.1 d.2.2.2.1 d.2.2.2.2⟩
theorem qay_ok (n : Nat) : aW Try.prog 14 (qay_E n) :=
 aW.bS n zz Try.f14 {} [] (.k (qbq_ok n) (.k (qav_ok n) (.k (qz_ok n) (.k (qam_ok n) (.k (qap_ok n) (.k (qbl_ok n) (.k (qbx_ok n) .e))))))) .e (by kernel_rfl) (by kernel_rfl) fun _ => by kernel_rfl
def qba_E (n : Nat) : aC := ⟨(SN [0] (u1 OE) .nil), [SY [0] pD HA], fun d => qba n d⟩
theorem qba_ok (n : Nat) : aW Try.prog 79 (qba_E n) :=
 aW.bS n zz Try.f79 {} [] .e .e (by kernel_rfl) (by kernel_rfl) fun _ => by kernel_rfl
def qbc_E (n : Nat) : aC := ⟨(SN [0] pD HA), [SY [0] hE HA], fun d => qbc n d.1 d.2⟩
theorem qbc_ok (n : Nat) : aW Try.prog 115 (qbc_E n) :=
 aW.bS n zz Try.f115 {} [] .e .e (by kernel_rfl) (by kernel_rfl) fun _ => by kernel_rfl
def qaj_E (n : Nat) : aC := ⟨(SN [0] pD HA), [SY [0] hT HA], fun d => qaj n d.1 d.2⟩
theorem qaj_ok (n : Nat) : aW Try.prog 116 (qaj_E n) :=
 aW.bS n zz Try.f116 {} [] .e .e (by kernel_rfl) (by kernel_rfl) fun _ => by kernel_rfl
def qaw_E (n : Nat) : aC := ⟨(SN [0, 1] PC HA), [SY [0] On HA], fun d => qaw n d.1 d.2.1 d.2.2⟩
theorem qaw_ok (n : Nat) : aW Try.prog 94 (qaw_E n) :=
 aW.bS n zz Try.f94 {} [] (.k (qbc_ok n) (.k (qaj_ok n) .e)) .e (by kernel_rfl) (by kernel_rfl) fun _ => by kernel_rfl
def qaz_E (n : Nat) : aC := ⟨(SN [0] pD HA), [SY [0] (u1 hB) HA], fun d => qaz n d.1 d.2⟩
def qaz_ls (n : Nat) : List (Nat × aL) := [(0, ⟨[SN [0, 3, 4] (u3 hQ hB hA) HA], [SY [2] (u1 hB) HA], qaz_W0 n⟩)]
theorem qaz_ok (n : Nat) : aW Try.prog 80 (qaz_E n) :=
 aW.bS n zz Try.f80 { live := [(0, [0, 3, 4])] } (qaz_ls n) (.k (qaw_ok n) (.k (qaj_ok n) .e)) (.k (fun _ => rfl) (fun _ => by kernel_rfl) .e) (by kernel_rfl) (by kernel_rfl) fun _ => by kernel_rfl
def qbu_E (n : Nat) : aC := ⟨(SN [0, 1] PC HA), [SY [0] (u1 (.tup (u2 hA .bool))) HA], fun d => qbu n d.1 d.2.1 d.2.2⟩
theorem qbu_ok (n : Nat) : aW Try.prog 113 (qbu_E n) :=
 aW.bS n zz Try.f113 {} [] (.k (qaz_ok n) (.k (qbc_ok n) .e)) .e (by kernel_rfl) (by kernel_rfl) fun _ => by kernel_rfl
def qas_E (n : Nat) : aC := ⟨(SN [0] pD HA), [SY [0] hS HA], fun d => qas n d.1 d.2⟩
theorem qas_ok (n : Nat) : aW Try.prog 114 (qas_E n) :=
 aW.bS n zz Try.f114 {} [] (.k (qbc_ok n) .e) .e (by kernel_rfl) (by kernel_rfl) fun _ => by kernel_rfl
def qbt_E (n : Nat) : aC := ⟨(SN [0, 1] (u2 OE hA) .nil), [SY [0] (u1 (.tup Qa)) .nil], fun d => qbt n d.1 d.2⟩
def qbt_ls (n : Nat) : List (Nat × aL) := [(0, ⟨[SN [6, 9, 22, 23] (u4 hQ (.msw 1 0) hA hA) Qi], [SY [4, 5] Qa Qi, SY [4, 5] Qa (u2 C9 (.bts 1 false false false yF)), SX 0 [6, 9] (u2 hQ (.msw 1 0)) Qi], qbt_W0 n⟩)]
theorem qbt_ok (n : Nat) : aW Try.prog 77 (qbt_E n) :=
 aW.bS n zz Try.f77 { live := [(0, [6, 9, 22, 23])], boxed := [(5, 0), (11, 5)] } (qbt_ls n) (.k (qba_ok n) (.k (qbu_ok n) (.k (qas_ok n) (.k (qaw_ok n) (.k (qbc_ok n) .e))))) (.k (fun _ => rfl) (fun _ => by kernel_rfl) .e) (by kernel_rfl) (by kernel_rfl) fun _ => by kernel_rfl
def qal_E (n : Nat) : aC := ⟨(SN [0, 1, 2] PH (u2 Ok Qu)), [SY [0] (u1 hU) (u4 Ok Qu PE C9)], fun d => qal n d.1 d.2⟩
theorem qal_ok (n : Nat) : aW Try.prog 78 (qal_E n) :=
 aW.bS n zz Try.f78 {} [] (.k (qba_ok n) .e) .e (by kernel_rfl) (by kernel_rfl) fun _ => by kernel_rfl
def qo_E (n : Nat) : aC := ⟨(SN [0, 1] PC Io), [SY [0] hS Io], fun d => qo n d.1 d.2.1.1 d.2.1.2 d.2.2.1 d.2.2.2⟩
theorem qo_ok (n : Nat) : aW Try.prog 95 (qo_E n) :=
 aW.bS n zz Try.f95 {} [] (.k (qaz_ok n) (.k (qbc_ok n) .e)) .e (by kernel_rfl) (by kernel_rfl) fun _ => by kernel_rfl
def qbz_E (n : Nat) : aC := ⟨(SN [0, 1] PC HA), [SY [0] (u1 (.tup (u2 PN .bool))) HA], fun d => qbz n d.1 d.2.1 d.2.2⟩
theorem qbz_ok (n : Nat) : aW Try.prog 117 (qbz_E n) :=
 aW.bS n zz Try.f117 {} [] (.k (qaz_ok n) (.k (qbc_ok n) (.k (qbw_ok n) .e))) .e (by kernel_rfl) (by kernel_rfl) fun _ => by kernel_rfl
def qaa_E (n : Nat) : aC := ⟨(SN [0] pD Io), [SY [0] (u1 PN) Io], fun d => qaa n d.1.1 d.1.2 d.2.1 d.2.2⟩
theorem qaa_ok (n : Nat) : aW Try.prog 84 (qaa_E n) :=
 aW.bS n zz Try.f84 {} [] (.k (qbz_ok n) .e) .e (by kernel_rfl) (by kernel_rfl) fun _ => by kernel_rfl
def qd_E (n : Nat) : aC := ⟨(SN [0, 1, 2] (u3 hQ hA (.fn 84 pD .nil)) Io), [SY [0] (u1 hP) Io], fun d => qd n d.1 d.2.1.1 d.2.1.2 d.2.2.1 d.2.2.2⟩
def qd_ls (n : Nat) : List (Nat × aL) := [(0, ⟨[SN [0, 2, 7, 10, 11] (u5 hQ (.fn 84 pD .nil) hC hA hA) Qw], [SX 0 [7] (u1 hC) Qw], qd_W0 n⟩)]
theorem qd_ok (n : Nat) : aW Try.prog 83 (qd_E n) :=
 aW.bS n zz Try.f83 { live := [(0, [0, 2, 7, 10, 11])], boxed := [(1, 0), (5, 4)] } (qd_ls n) (.k (qo_ok n) (.k (qaa_ok n) .e)) (.k (fun _ => rfl) (fun _ => by kernel_rfl) .e) (by kernel_rfl) (by kernel_rfl) fun _ => by kernel_rfl
def qau_E (n : Nat) : aC := ⟨(SN [0] pD PB), [SY [0] (u1 hP) PB], fun d => qau n d.1.1 d.1.2 d.2.1 d.2.2⟩
theorem qau_ok (n : Nat) : aW Try.prog 82 (qau_E n) :=
 aW.bS n zz Try.f82 {} [] (.k (qd_ok n) .e) .e (by kernel_rfl) (by kernel_rfl) fun _ => by kernel_rfl
def qk_E (n : Nat) : aC := ⟨(SN [0, 1, 2] (u3 hQ hA (.fn 82 .nil (u1 hR))) Pz), [SY [0] (u1 hM) Pz], fun d => qk n d.1 d.2.1.1 d.2.1.2 d.2.2.1 d.2.2.2⟩
def qk_ls (n : Nat) : List (Nat × aL) := [(0, ⟨[SN [0, 2, 7, 10, 11] (u5 hQ (.fn 82 .nil (u1 hR)) hD hA hA) (u4 O7 Pg C9 hX)], [SX 0 [7] (u1 hD) (u4 O7 Pg C9 hX)], qk_W0 n⟩)]
theorem qk_ok (n : Nat) : aW Try.prog 81 (qk_E n) :=
 aW.bS n zz Try.f81 { live := [(0, [0, 2, 7, 10, 11])], boxed := [(1, 0), (5, 4)] } (qk_ls n) (.k (qo_ok n) (.k (qau_ok n) .e)) (.k (fun _ => rfl) (fun _ => by kernel_rfl) .e) (by kernel_rfl) (by kernel_rfl) fun _ => by kernel_rfl
def qx_E (n : Nat) : aC := ⟨(SN [0, 1, 2] PH (u2 Ok PT)), [SY [0] (u1 hU) (u4 Ok PT PE C9)], fun d => qx n d.1 d.2.1 d.2.2⟩
theorem qx_ok (n : Nat) : aW Try.prog 78 (qx_E n) :=
 aW.bS n zz Try.f78 {} [] (.k (qba_ok n) .e) .e (by kernel_rfl) (by kernel_rfl) fun _ => by kernel_rfl
def qag_an : lC := {}
def qag_c : Code := (match Try.f91.body with | some c => c | none => .skip)
def qag_a : jD := ⟨.normal, [0, 1], (.cons (.ptr 0 0 0 0) (.cons (.int .i64) .nil)), (.cons (.bcells 0 false 1 (.cons (.sl false false (.int .u8)) (.cons .bool .nil))) .nil)⟩
def qbd_E (n : Nat) : aC := ⟨(SN [0] (u1 OE) .nil), [SY [0] (u1 (.fn 123 .nil pD)) (u1 (.bcells 0 false 1 (u1 OE)))], fun d => qbd n d⟩
theorem qbd_ok (n : Nat) : aW Try.prog 120 (qbd_E n) :=
 aW.bS n zz Try.f120 {} [] .e .e (by kernel_rfl) (by kernel_rfl) fun _ => by kernel_rfl
def qag_res : List jD := [⟨.ret, [0], (.cons (.int .u64) .nil), (.cons (.bcells 0 false 1 (.cons (.sl false false (.int .u8)) (.cons .bool .nil))) .nil)⟩]
def qag_tbl (n : Nat) : FuncId → List aC := fun f => bif Nat.beq f 94 then [qaw_E n] else bif Nat.beq f 120 then [qbd_E n] else []
def qag_E (n : Nat) : aC := ⟨qag_a, qag_res, fun d => qag n d.1 d.2.1 d.2.2⟩
end
end Sx
