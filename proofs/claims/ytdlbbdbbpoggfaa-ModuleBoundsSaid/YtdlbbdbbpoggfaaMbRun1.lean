import Derived.Test.YtdlbbdbbpoggfaaProg
import Derived.Test.YtdlbbdbbpoggfaaLib34
import Derived.Test.YtdlbbdbbpoggfaaMbSh
open Go Go.Ab Go.Proofs
set_option linter.unusedVariables false
set_option maxRecDepth 20000
namespace Sx
noncomputable section
def GS (f : Func) : Code := (match f.body with | some c => c | none => .skip)
def Oi (b : Nat) (c : Code) : Code := (match eF b (fK c 0) with | some c => c | none => .skip)
abbrev yA : Ty := (.cons (.sl true (.cons (.int .i64) (.int .i64))) (.cons (.int .i64) (.cons (.int .i64) (.cons (.sl true (.cons (.int .i64) (.int .i64))) (.sl true (.cons (.int .i64) (.cons (.int .i64) (.int .i64))))))))
abbrev yB : Ty := (.sl true (.cons (.int .i64) (.int .i64)))
abbrev yC : Ty := (.cons (.sl true (.cons (.int .i64) (.int .i64))) (.cons (.int .i64) (.int .i64)))
abbrev yD : Ty := (.cons (.int .i64) (.int .i64))
abbrev yE : Ty := (.cons (.int .i64) (.cons (.int .i64) (.int .i64)))
abbrev yF : Ty := (.sl false (.int .u8))
def PL : DG := []
instance gTab : b4 := ⟨fun g => eF g PL⟩
abbrev xA : Ty := .int .i64
abbrev xB : Ty := .sl false (.int .u64)
abbrev xC : Ty := .sl false (.int .u8)
abbrev xD : Ty := .sl true (.cons xA xA)
abbrev xE : Ty := .cons xA (.cons (.int .u64) .bool)
abbrev xF : Ty := .sl true (.cons xA (.cons xA xA))
abbrev xG : Ty := .sl true (.cons xD (.cons xA xA))
abbrev xH : Ty := .cons xA (.cons xA (.cons xB xB))
abbrev xI : Ty := .cons xA (.cons xA (.cons xB xC))
abbrev xJ : Ty := .cons xD (.cons xA (.cons xA (.cons xD xF)))
abbrev zi : Value := .int .i64 0
abbrev zl : Value := .slice none 0 0
abbrev zu : Value := .int .u64 0
abbrev zp : Value := .pointer none
abbrev zt : Value := .string (ByteArray.mk (List.toArray []))
def tA : TI := ⟨.int .i64, 1, 8, false, some xA, false, [zi]⟩
def tB : TI := ⟨.bool, 1, 1, false, some .bool, false, [.bool false]⟩
def tC : TI := ⟨.int .u8, 1, 1, false, some (.int .u8), false, [.int .u8 0]⟩
def tD : TI := ⟨.st [(0, 1, 2), (1, 1, 3), (2, 1, 4), (3, 1, 6)], 4, 24, true, some (.cons xA (.cons xA (.cons .bool (.int .u8)))), true, [zi, zi, .bool false, .int .u8 0]⟩
def tE : TI := ⟨.str, 1, 16, false, some .str, false, [zt]⟩
def tF : TI := ⟨.int .u64, 1, 8, false, some (.int .u64), false, [zu]⟩
def tG : TI := ⟨.st [(0, 1, 9), (1, 1, 12)], 2, 24, true, some (.cons .str (.int .u64)), false, [zt, zu]⟩
def tH : TI := ⟨.ptr, 1, 8, false, none, false, [zp]⟩
def tI : TI := ⟨.st [(0, 1, 17)], 1, 8, true, none, false, [zp]⟩
def tJ : TI := ⟨.int .i32, 1, 4, false, some (.int .i32), false, [.int .i32 0]⟩
def tK : TI := ⟨.st [(0, 1, 3), (1, 1, 3)], 2, 16, true, some (.cons xA xA), true, [zi, zi]⟩
def tL : TI := ⟨.sl 23, 1, 24, false, some xD, false, [zl]⟩
def tM : TI := ⟨.sl 40, 1, 24, false, some xF, false, [zl]⟩
def tN : TI := ⟨.st [(0, 1, 24), (1, 2, 23), (3, 1, 24), (4, 1, 25)], 5, 88, true, some xJ, false, [zl, zi, zi, zl, zl]⟩
def tO : TI := ⟨.sl 27, 1, 24, false, some (.sl true xJ), false, [zl]⟩
def tP : TI := ⟨.sl 24, 1, 24, false, some (.sl false xD), false, [zl]⟩
def tQ : TI := ⟨.sl 38, 1, 24, false, some xG, false, [zl]⟩
def tR : TI := ⟨.sl 36, 1, 24, false, some xB, false, [zl]⟩
def tS : TI := ⟨.sl 9, 1, 24, false, some (.sl false .str), false, [zl]⟩
def tT : TI := ⟨.st [(0, 1, 29), (1, 1, 28), (2, 1, 30), (3, 1, 31), (4, 1, 32)], 5, 120, true, some (.cons (.sl false xD) (.cons (.sl true xJ) (.cons xG (.cons xB (.sl false .str))))), false, [zl, zl, zl, zl, zl]⟩
def tU : TI := ⟨.sl 3, 1, 24, false, some (.sl false xA), false, [zl]⟩
def tV : TI := ⟨.st [(0, 1, 24), (1, 2, 23)], 3, 40, true, some (.cons xD (.cons xA xA)), false, [zl, zi, zi]⟩
def tW : TI := ⟨.st [(0, 1, 3), (1, 1, 3), (2, 1, 3)], 3, 24, true, some (.cons xA (.cons xA xA)), true, [zi, zi, zi]⟩
def tX : TI := ⟨.sl 54, 1, 24, false, some (.sl true xH), false, [zl]⟩
def tY : TI := ⟨.sl 57, 1, 24, false, some (.sl true xI), false, [zl]⟩
def tZ : TI := ⟨.sl 59, 1, 24, false, some (.sl true xE), false, [zl]⟩
def Qp : TI := ⟨.st [(0, 1, 45), (1, 1, 46), (2, 1, 47), (3, 1, 3), (4, 1, 3), (5, 1, 3), (6, 1, 36)], 7, 104, true, some (.cons (.sl true xH) (.cons (.sl true xI) (.cons (.sl true xE) (.cons xA (.cons xA (.cons xA (.int .u64))))))), false, [zl, zl, zl, zi, zi, zi, zu]⟩
def Qv : TI := ⟨.st [(0, 1, 3), (1, 1, 3), (2, 1, 31), (3, 1, 31)], 4, 64, true, some xH, false, [zi, zi, zl, zl]⟩
def Q9 : TI := ⟨.sl 5, 1, 24, false, some xC, false, [zl]⟩
def QJ : TI := ⟨.st [(0, 1, 3), (1, 1, 3), (2, 1, 31), (3, 1, 55)], 4, 64, true, some xI, false, [zi, zi, zl, zl]⟩
def Qm : TI := ⟨.st [(0, 1, 3), (1, 1, 36), (2, 1, 4)], 3, 24, true, some xE, true, [zi, zu, .bool false]⟩
def QW : TI := ⟨.sl 55, 1, 24, false, some (.sl false xC), false, [zl]⟩
def QP : TI := ⟨.int .u32, 1, 4, false, some (.int .u32), false, [.int .u32 0]⟩
def Qt : TI := ⟨.st [(0, 1, 55)], 1, 24, true, some xC, false, [zl]⟩
def QB : TI := ⟨.st [(0, 1, 118), (1, 1, 3), (2, 1, 4)], 3, 24, true, none, false, [zp, zi, .bool false]⟩
def Q7 : TI := ⟨.arr 2 3, 2, 16, true, none, false, [zi, zi]⟩
def Qk : TI := ⟨.st [(0, 1, 55), (1, 1, 4)], 2, 32, true, some (.cons xC .bool), false, [zl, .bool false]⟩
def QX : TI := ⟨.arr 2 36, 2, 16, true, none, false, [zu, zu]⟩
def QD : TI := ⟨.st [(0, 1, 17), (1, 1, 17), (2, 1, 17), (3, 1, 9)], 4, 40, true, none, false, [zp, zp, zp, zt]⟩
def Q5 : TI := ⟨.arr 0 16, 0, 0, true, none, false, []⟩
def Qq : TI := ⟨.st [(0, 0, 172)], 0, 0, true, none, false, []⟩
def QL : TI := ⟨.other, 1, 8, false, none, false, [zp]⟩
def PD : List (Nat × TI) := [(2, tA), (3, tA), (4, tB), (5, tC), (6, tC), (7, tD), (8, tD), (9, tE), (10, tE), (11, tE), (12, tF), (13, tG), (14, tG), (15, tH), (16, tH), (17, tH), (18, tI), (19, tI), (21, tJ), (22, tK), (23, tK), (24, tL), (25, tM), (26, tN), (27, tN), (28, tO), (29, tP), (30, tQ), (31, tR), (32, tS), (33, tT), (34, tT), (35, tU), (36, tF), (37, tV), (38, tV), (39, tW), (40, tW), (41, tA), (45, tX), (46, tY), (47, tZ), (48, Qp), (49, Qp), (53, Qv), (54, Qv), (55, Q9), (56, QJ), (57, QJ), (58, Qm), (59, Qm), (84, QW), (88, QP), (107, tH), (108, Qt), (109, Qt), (117, tH), (118, tH), (120, QB), (121, QB), (150, tF), (152, Q7), (156, Qk), (157, Qk), (169, QX), (170, QD), (171, QD), (172, Q5), (173, Qq), (174, Qq), (175, tC), (176, tC), (178, tH), (179, tJ), (180, tJ), (183, QL)]
def tab : TypeId → Option TI := fun t => eF t PD
theorem N8 : bI Try.prog tab := (show bI Try.prog (fun t => eF t PD) from bI.of_list _ (by kernel_rfl))
theorem Dl : m9 Try.prog = true := by kernel_rfl
theorem Ek : Try.prog.follows .mixedOrders = true := by kernel_rfl
theorem zz : Qe Try.prog tab := ⟨Dl, Ek, N8⟩
abbrev hA : Sh := .int .i64
abbrev hB : Sh := .int .u64
abbrev hC : Sh := .msw 2 0
abbrev hD : Sh := .msw 3 0
abbrev hE : Sh := u1 .bool
abbrev hF : Sh := .msw 0 0
abbrev hG : Sh := .sl true false yB
abbrev hH : Sh := .sl true true yA
abbrev hI : Sh := .sl true true yC
abbrev hJ : Sh := .sl true false .str
abbrev hK : Sh := .sl true true yD
abbrev hL : Sh := .sl true true yE
abbrev hM : Sh := .sl false false yB
abbrev hN : Sh := .sl false true yA
abbrev hO : Sh := .sl false true yC
abbrev hP : Sh := .sl false true yD
abbrev hQ : Sh := .ptr 0 0 0 0
abbrev hR : Sh := .ptr 1 0 0 0
abbrev hS : Sh := u1 hA
abbrev hT : Sh := u1 (.tup .nil)
abbrev hU : Sh := .ptr 2 0 0 0
abbrev hV : Sh := u1 (.int .u32)
abbrev hW : Sh := .bts 0 false false true yA
abbrev hX : Sh := .bts 0 false false false yB
abbrev hY : Sh := .sl true false (.int .u64)
abbrev hZ : Sh := .sl false false (.int .u8)
abbrev Ou : Sh := .sl true false (.int .u8)
abbrev P9 : Sh := .sl false false (.int .u64)
abbrev Qj : Sh := .bts 0 false false true yC
abbrev Qc : Sh := .bts 0 false false false .str
abbrev pD : Sh := u1 hQ
abbrev P3 : Sh := .bts 0 false false false (.int .u8)
abbrev Qf : Sh := .bts 0 false false false (.int .u64)
abbrev Ok : Sh := u1 hZ
abbrev Pq : Sh := u2 (.int .u8) (.int .u8)
abbrev Pi : Sh := u1 P3
abbrev PG : Sh := .agg (u2 hA hA)
abbrev Qg : Sh := u2 (.sl false false yF) hA
abbrev Ol : Sh := .bcells 0 false 1 (u1 (.sl false false yF))
abbrev rV : Sh := u1 (.bcells 0 false 1 hS)
abbrev PA : Sh := u2 hQ hA
abbrev Pk : Sh := .bcells 0 false 1 pD
abbrev O1 : Sh := .bcells 0 false 1 (u2 hA hA)
abbrev C4 : Sh := .bcells 0 false 1 (u2 hZ .bool)
abbrev NG : Sh := u3 hA hR hA
abbrev Qb : Sh := .agg (u3 hK hA hA)
abbrev Qi : Sh := u1 (.agg (u3 hA hA hA))
abbrev HH : Sh := u1 C4
abbrev Qy : Sh := .bcells 0 false 1 (u5 .nilS .nilS .nilS .nilS .nilS)
abbrev PF : Sh := u3 hA hQ hR
abbrev PJ : Sh := .bcells 0 false 1 (u3 (.ptr 3 0 0 0) hA .bool)
abbrev O5 : Sh := .bcells 0 false 1 (u3 hU hA .bool)
abbrev Pm : Sh := .bcells 0 false 1 (u3 hR hA .bool)
abbrev PB : Sh := .bcells 0 false 1 (u3 hK hA hA)
abbrev Qr : Sh := .bcells 0 false 1 (u5 .nilS hC .nilS .nilS .nilS)
abbrev PW : Sh := .bcells 0 false 1 (u5 hM .nilS .nilS .nilS .nilS)
abbrev K3 : Sh := u2 (.bcells 0 false 1 (u1 (.msw 1 0))) P3
abbrev PX : Sh := u2 (.bcells 0 false 1 (u1 (.msw 1 1))) (.bts 1 false false false (.int .u8))
abbrev QH : Sh := .bcells 0 false 1 (u5 hM hN .nilS .nilS .nilS)
abbrev P6 : Sh := u2 C4 (.bts 0 false false false yF)
abbrev Qu : Sh := .bcells 0 false 1 (u5 hM hN hO .nilS .nilS)
abbrev P1 : Sh := .agg (u5 hK hA hA hK hL)
abbrev N5 : Sh := u6 (.int .u8) hQ hA hR hA hA
abbrev Qz : Sh := .bcells 0 false 1 (u5 hK hA hA hK hL)
abbrev Qo : Sh := .bcells 0 false 1 (u5 hM hN hO P9 .nilS)
abbrev P8 : Sh := .agg (u5 hG hH hI hY hJ)
abbrev O3 : Sh := u1 P8
abbrev Io : Sh := u2 Pm C4
abbrev On : Sh := u3 O1 Qr hW
abbrev Qn : Sh := u3 Pm C4 (.bts 0 false false true yD)
abbrev QG : Sh := u3 Pm C4 (.bts 0 false false true yE)
abbrev PC : Sh := u3 O5 Pk C4
abbrev Pz : Sh := u3 (.bcells 0 false 1 (u1 hR)) O5 C4
abbrev Qh : Sh := u3 C4 (.bcells 0 false 1 (u3 hA hA hA)) (.bcells 0 false 1 (u2 hB hB))
abbrev QE : Sh := u4 O1 (.bcells 0 false 1 (u5 hC hD .nilS .nilS .nilS)) hX hW
abbrev QC : Sh := u4 O1 (.bcells 0 false 1 (u5 .nilS hC hD .nilS .nilS)) hW Qj
abbrev Qx : Sh := u4 O1 (.bcells 0 false 1 (u5 .nilS hC .nilS .nilS hD)) hW Qc
abbrev QA : Sh := u4 O1 (.bcells 0 false 1 (u5 .nilS hC .nilS hD .nilS)) hW Qf
abbrev PZ : Sh := u3 O1 Qr (.bos 0 false (.cons (.sl true (.cons (.int .i64) (.int .i64))) (.cons (.int .i64) (.cons (.int .i64) (.cons (.sl true (.cons (.int .i64) (.int .i64))) (.sl true (.cons (.int .i64) (.cons (.int .i64) (.int .i64)))))))) .nil)
def qbx_E (n : Nat) : aC := ⟨(SN [0, 1] (u2 PG hA) .nil), [SY [0] hE .nil], fun d => qbx n d.1.1 d.1.2 d.2⟩
theorem qbx_ok (n : Nat) : aW Try.prog 68 (qbx_E n) :=
 aW.bS n zz Try.f68 {} [] .e .e (by kernel_rfl) (by kernel_rfl) fun _ => by kernel_rfl
def qbf_E (n : Nat) : aC := ⟨(SN [0, 1] (u2 PG hQ) rV), [SY [0] hE rV], fun d => qbf n d.1.1 d.1.2 d.2⟩
theorem qbf_ok (n : Nat) : aW Try.prog 107 (qbf_E n) :=
 aW.bS n zz Try.f107 {} [] (.k (qbx_ok n) .e) .e (by kernel_rfl) (by kernel_rfl) fun _ => by kernel_rfl
def qaj_E (n : Nat) : aC := ⟨(SN [0, 1] (u2 hK (.fn 107 .nil pD)) rV), [SY [0] hS rV], fun d => qaj n d.1 d.2⟩
def qaj_ls (n : Nat) : List (Nat × aL) := [(0, ⟨[SN [0, 1, 7, 8] (u4 hK (.fn 107 .nil pD) hA hA) rV], [SY [4] hS rV, SX 0 [] .nil rV], qaj_W0 n⟩)]
theorem qaj_ok (n : Nat) : aW Try.prog 52 (qaj_E n) :=
 aW.bS n zz Try.f52 { live := [(0, [0, 1, 7, 8])] } (qaj_ls n) (.k (qbf_ok n) .e) (.k (fun _ => rfl) (fun _ => by kernel_rfl) .e) (by kernel_rfl) (by kernel_rfl) fun _ => by kernel_rfl
def qu_E (n : Nat) : aC := ⟨(SN [0, 1] (u2 hK (.fn 107 .nil pD)) rV), [SY [0] hE rV], fun d => qu n d.1 d.2⟩
theorem qu_ok (n : Nat) : aW Try.prog 19 (qu_E n) :=
 aW.bS n zz Try.f19 {} [] (.k (qaj_ok n) .e) .e (by kernel_rfl) (by kernel_rfl) fun _ => by kernel_rfl
def qbp_E (n : Nat) : aC := ⟨(SN [0, 1, 2] (u3 hK hA hA) .nil), [SY [0] hE .nil], fun d => qbp n d.1 d.2.1 d.2.2⟩
theorem qbp_ok (n : Nat) : aW Try.prog 63 (qbp_E n) :=
 aW.bS n zz Try.f63 {} [] (.k (qu_ok n) .e) .e (by kernel_rfl) (by kernel_rfl) fun _ => by kernel_rfl
def qbk_E (n : Nat) : aC := ⟨(SN [0, 1] (u2 hK hQ) rV), [SY [0] hE rV], fun d => qbk n d.1 d.2⟩
theorem qbk_ok (n : Nat) : aW Try.prog 62 (qbk_E n) :=
 aW.bS n zz Try.f62 {} [] (.k (qbp_ok n) .e) .e (by kernel_rfl) (by kernel_rfl) fun _ => by kernel_rfl
def qaf_E (n : Nat) : aC := ⟨(SN [0, 1] (u2 hG (.fn 62 .nil pD)) rV), [SY [0] hS rV], fun d => qaf n d.1 d.2⟩
def qaf_ls (n : Nat) : List (Nat × aL) := [(0, ⟨[SN [0, 1, 7, 8] (u4 hG (.fn 62 .nil pD) hA hA) rV], [SY [4] hS rV, SX 0 [] .nil rV], qaf_W0 n⟩)]
theorem qaf_ok (n : Nat) : aW Try.prog 106 (qaf_E n) :=
 aW.bS n zz Try.f106 { live := [(0, [0, 1, 7, 8])] } (qaf_ls n) (.k (qbk_ok n) .e) (.k (fun _ => rfl) (fun _ => by kernel_rfl) .e) (by kernel_rfl) (by kernel_rfl) fun _ => by kernel_rfl
def qh_E (n : Nat) : aC := ⟨(SN [0, 1] (u2 hG (.fn 62 .nil pD)) rV), [SY [0] hE rV], fun d => qh n d.1 d.2⟩
theorem qh_ok (n : Nat) : aW Try.prog 61 (qh_E n) :=
 aW.bS n zz Try.f61 {} [] (.k (qaf_ok n) .e) .e (by kernel_rfl) (by kernel_rfl) fun _ => by kernel_rfl
def qby_E (n : Nat) : aC := ⟨(SN [0] hS .nil), [SY [0] hS .nil], fun d => qby n d⟩
theorem qby_ok (n : Nat) : aW Try.prog 111 (qby_E n) :=
 aW.bS n zz Try.f111 {} [] .e .e (by kernel_rfl) (by kernel_rfl) fun _ => by kernel_rfl
def qca_E (n : Nat) : aC := ⟨(SN [0, 1] (u2 hA .bool) .nil), [SY [0] hE .nil], fun d => qca n d.1 d.2⟩
theorem qca_ok (n : Nat) : aW Try.prog 112 (qca_E n) :=
 aW.bS n zz Try.f112 {} [] .e .e (by kernel_rfl) (by kernel_rfl) fun _ => by kernel_rfl
def qce_E (n : Nat) : aC := ⟨(SN [0] (u1 hB) .nil), [SY [0] (u1 hF) Pi], fun d => qce n d⟩
def qce_ls (n : Nat) : List (Nat × aL) := [(0, ⟨[SN [0, 3] (u2 hB hF) Pi], [SX 0 [0, 3] (u2 hB hF) Pi], qce_W0 n⟩)]
theorem qce_ok (n : Nat) : aW Try.prog 71 (qce_E n) :=
 aW.b n zz Try.f71 { live := [(0, [0, 3])], boxed := [(0, 0), (1, 0), (4, 5), (5, 4)] } (qce_ls n) .e (.k (fun _ => rfl) (fun _ => by kernel_rfl) .e) (by kernel_rfl) (by kernel_rfl) fun _ => by kernel_rfl
def qcc_E (n : Nat) : aC := ⟨(SN [0] Qi .nil), [SY [0] Ok .nil], fun d => qcc n d.1 d.2.1 d.2.2⟩
def qcc_ls (n : Nat) : List (Nat × aL) := [(0, ⟨[SN [4, 39, 40, 41] (u4 hF (.ms 1 0) hA hA) (u2 P3 O1)], [SX 0 [4] (u1 hF) (u2 P3 O1)], qcc_W0 n⟩)]
theorem qcc_ok (n : Nat) : aW Try.prog 75 (qcc_E n) :=
 aW.bS n zz Try.f75 { live := [(0, [4, 39, 40, 41])], boxed := [(4, 3), (9, 4)] } (qcc_ls n) (.k (qby_ok n) (.k (qca_ok n) (.k (qce_ok n) .e))) (.k (fun _ => rfl) (fun _ => by kernel_rfl) .e) (by kernel_rfl) (by kernel_rfl) fun _ => by kernel_rfl
def qai_E (n : Nat) : aC := ⟨(SN [0] Qi .nil), [SY [0] hE .nil], fun d => qai n d.1 d.2.1 d.2.2⟩
theorem qai_ok (n : Nat) : aW Try.prog 109 (qai_E n) :=
 aW.bS n zz Try.f109 {} [] (.k (qcc_ok n) .e) .e (by kernel_rfl) (by kernel_rfl) fun _ => by kernel_rfl
def qag_E (n : Nat) : aC := ⟨(SN [0, 1] (u2 hL (.fn 109 .nil .nil)) .nil), [SY [0] hS .nil], fun d => qag n d⟩
def qag_ls (n : Nat) : List (Nat × aL) := [(0, ⟨[SN [0, 1, 7, 8] (u4 hL (.fn 109 .nil .nil) hA hA) .nil], [SY [4] hS .nil, SX 0 [] .nil .nil], qag_W0 n⟩)]
theorem qag_ok (n : Nat) : aW Try.prog 51 (qag_E n) :=
 aW.bS n zz Try.f51 { live := [(0, [0, 1, 7, 8])] } (qag_ls n) (.k (qai_ok n) .e) (.k (fun _ => rfl) (fun _ => by kernel_rfl) .e) (by kernel_rfl) (by kernel_rfl) fun _ => by kernel_rfl
def qm_E (n : Nat) : aC := ⟨(SN [0, 1] (u2 hL (.fn 109 .nil .nil)) .nil), [SY [0] hE .nil], fun d => qm n d⟩
theorem qm_ok (n : Nat) : aW Try.prog 18 (qm_E n) :=
 aW.bS n zz Try.f18 {} [] (.k (qag_ok n) .e) .e (by kernel_rfl) (by kernel_rfl) fun _ => by kernel_rfl
def qak_E (n : Nat) : aC := ⟨(SN [0, 1] (u2 P1 hA) .nil), [SY [0] hE .nil], fun d => qak n d.1.1 d.1.2.1 d.1.2.2.1 d.1.2.2.2.1 d.1.2.2.2.2 d.2⟩
theorem qak_ok (n : Nat) : aW Try.prog 66 (qak_E n) :=
 aW.bS n zz Try.f66 {} [] (.k (qbp_ok n) (.k (qbx_ok n) (.k (qm_ok n) .e))) .e (by kernel_rfl) (by kernel_rfl) fun _ => by kernel_rfl
def qbl_E (n : Nat) : aC := ⟨(SN [0, 1] (u2 P1 hQ) rV), [SY [0] hE rV], fun d => qbl n d.1.1 d.1.2.1 d.1.2.2.1 d.1.2.2.2.1 d.1.2.2.2.2 d.2⟩
theorem qbl_ok (n : Nat) : aW Try.prog 65 (qbl_E n) :=
 aW.bS n zz Try.f65 {} [] (.k (qak_ok n) .e) .e (by kernel_rfl) (by kernel_rfl) fun _ => by kernel_rfl
def qao_E (n : Nat) : aC := ⟨(SN [0, 1] (u2 hH (.fn 65 .nil pD)) rV), [SY [0] hS rV], fun d => qao n d.1 d.2⟩
def qao_ls (n : Nat) : List (Nat × aL) := [(0, ⟨[SN [0, 1, 7, 8] (u4 hH (.fn 65 .nil pD) hA hA) rV], [SY [4] hS rV, SX 0 [] .nil rV], qao_W0 n⟩)]
theorem qao_ok (n : Nat) : aW Try.prog 108 (qao_E n) :=
 aW.bS n zz Try.f108 { live := [(0, [0, 1, 7, 8])] } (qao_ls n) (.k (qbl_ok n) .e) (.k (fun _ => rfl) (fun _ => by kernel_rfl) .e) (by kernel_rfl) (by kernel_rfl) fun _ => by kernel_rfl
def qq_E (n : Nat) : aC := ⟨(SN [0, 1] (u2 hH (.fn 65 .nil pD)) rV), [SY [0] hE rV], fun d => qq n d.1 d.2⟩
theorem qq_ok (n : Nat) : aW Try.prog 64 (qq_E n) :=
 aW.bS n zz Try.f64 {} [] (.k (qao_ok n) .e) .e (by kernel_rfl) (by kernel_rfl) fun _ => by kernel_rfl
def qbj_E (n : Nat) : aC := ⟨(SN [0, 1] (u2 Qb hQ) rV), [SY [0] hE rV], fun d => qbj n d.1.1 d.1.2.1 d.1.2.2 d.2⟩
theorem qbj_ok (n : Nat) : aW Try.prog 67 (qbj_E n) :=
 aW.bS n zz Try.f67 {} [] (.k (qbp_ok n) (.k (qbx_ok n) .e)) .e (by kernel_rfl) (by kernel_rfl) fun _ => by kernel_rfl
def qac_E (n : Nat) : aC := ⟨(SN [0, 1] (u2 hI (.fn 67 .nil pD)) rV), [SY [0] hS rV], fun d => qac n d.1 d.2⟩
def qac_ls (n : Nat) : List (Nat × aL) := [(0, ⟨[SN [0, 1, 7, 8] (u4 hI (.fn 67 .nil pD) hA hA) rV], [SY [4] hS rV, SX 0 [] .nil rV], qac_W0 n⟩)]
theorem qac_ok (n : Nat) : aW Try.prog 53 (qac_E n) :=
 aW.bS n zz Try.f53 { live := [(0, [0, 1, 7, 8])] } (qac_ls n) (.k (qbj_ok n) .e) (.k (fun _ => rfl) (fun _ => by kernel_rfl) .e) (by kernel_rfl) (by kernel_rfl) fun _ => by kernel_rfl
def qf_E (n : Nat) : aC := ⟨(SN [0, 1] (u2 hI (.fn 67 .nil pD)) rV), [SY [0] hE rV], fun d => qf n d.1 d.2⟩
theorem qf_ok (n : Nat) : aW Try.prog 24 (qf_E n) :=
 aW.bS n zz Try.f24 {} [] (.k (qac_ok n) .e) .e (by kernel_rfl) (by kernel_rfl) fun _ => by kernel_rfl
def qbm_E (n : Nat) : aC := ⟨(SN [0] (u1 .str) .nil), [SY [0] hE .nil], fun d => qbm n d⟩
theorem qbm_ok (n : Nat) : aW Try.prog 70 (qbm_E n) :=
 aW.bS n zz Try.f70 {} [] .e .e (by kernel_rfl) (by kernel_rfl) fun _ => by kernel_rfl
def qab_E (n : Nat) : aC := ⟨(SN [0, 1] (u2 hJ (.fn 70 .nil .nil)) .nil), [SY [0] hS .nil], fun d => qab n d⟩
def qab_ls (n : Nat) : List (Nat × aL) := [(0, ⟨[SN [0, 1, 7, 8] (u4 hJ (.fn 70 .nil .nil) hA hA) .nil], [SY [4] hS .nil, SX 0 [] .nil .nil], qab_W0 n⟩)]
theorem qab_ok (n : Nat) : aW Try.prog 110 (qab_E n) :=
 aW.bS n zz Try.f110 { live := [(0, [0, 1, 7, 8])] } (qab_ls n) (.k (qbm_ok n) .e) (.k (fun _ => rfl) (fun _ => by kernel_rfl) .e) (by kernel_rfl) (by kernel_rfl) fun _ => by kernel_rfl
def qg_E (n : Nat) : aC := ⟨(SN [0, 1] (u2 hJ (.fn 70 .nil .nil)) .nil), [SY [0] hE .nil], fun d => qg n d⟩
theorem qg_ok (n : Nat) : aW Try.prog 69 (qg_E n) :=
 aW.bS n zz Try.f69 {} [] (.k (qab_ok n) .e) .e (by kernel_rfl) (by kernel_rfl) fun _ => by kernel_rfl
def qbo_E (n : Nat) : aC := ⟨(SN [0] O3 .nil), [SY [0] hE .nil], fun d => qbo n d.1 d.2.1 d.2.2.1 d.2.2.2.1 d.2.2.2.2⟩
theorem qbo_ok (n : Nat) : aW Try.prog 40 (qbo_E n) :=
 aW.bS n zz Try.f40 {} [] (.k (qh_ok n) (.k (qq_ok n) (.k (qf_ok n) (.k (qg_ok n) .e)))) .e (by kernel_rfl) (by kernel_rfl) fun _ => by kernel_rfl
def qo_E (n : Nat) : aC := ⟨(SN [0, 1] PA (u1 (.bcells 0 false 1 (u1 .nilS)))), [SY [0] hT K3], fun d => qo n d⟩
theorem qo_ok (n : Nat) : aW Try.prog 72 (qo_E n) :=
 aW.bS n zz Try.f72 { boxed := [(0, 8)] } [] (.k (qce_ok n) .e) .e (by kernel_rfl) (by kernel_rfl) fun _ => by kernel_rfl
def qb_E (n : Nat) : aC := ⟨(SN [0, 1] PA K3), [SY [0] hT PX], fun d => qb n d.1 d.2⟩
theorem qb_ok (n : Nat) : aW Try.prog 72 (qb_E n) :=
 aW.bS n zz Try.f72 { boxed := [(0, 8)] } [] (.k (qce_ok n) .e) .e (by kernel_rfl) (by kernel_rfl) fun _ => by kernel_rfl
def qbz_E (n : Nat) : aC := ⟨(SN [0] (u1 PG) .nil), [SY [0] Ok .nil], fun d => qbz n d.1 d.2⟩
theorem qbz_ok (n : Nat) : aW Try.prog 74 (qbz_E n) :=
 aW.bS n zz Try.f74 { raw := [(1, 4)] } [] (.k (qce_ok n) .e) .e (by kernel_rfl) (by kernel_rfl) fun _ => by kernel_rfl
def ql_E (n : Nat) : aC := ⟨(SN [0, 1] (u2 hQ hK) K3), [SY [0] hT PX], fun d => ql n d.1 d.2⟩
def ql_ls (n : Nat) : List (Nat × aL) := [(0, ⟨[SN [0, 10, 11, 12] (u4 hQ hK hA hA) PX], [SX 0 [] .nil PX], ql_W0 n⟩)]
theorem ql_ok (n : Nat) : aW Try.prog 73 (ql_E n) :=
 aW.bS n zz Try.f73 { live := [(0, [0, 10, 11, 12])], boxed := [(4, 7)] } (ql_ls n) (.k (qb_ok n) (.k (qbz_ok n) .e)) (.k (fun _ => rfl) (fun _ => by kernel_rfl) .e) (by kernel_rfl) (by kernel_rfl) fun _ => by kernel_rfl
def qaq_E (n : Nat) : aC := ⟨(SN [0] O3 .nil), [SY [0] Ok .nil], fun d => qaq n d.1 d.2.1 d.2.2.1 d.2.2.2.1 d.2.2.2.2⟩
def qaq_ls (n : Nat) : List (Nat × aL) := [(0, ⟨[SN [3, 14, 15, 16] (u4 hQ hG hA hA) K3], [SX 0 [3] pD K3], qaq_W0 n⟩)]
theorem qaq_ok (n : Nat) : aW Try.prog 42 (qaq_E n) :=
 aW.bS n zz Try.f42 { live := [(0, [3, 14, 15, 16])] } (qaq_ls n) (.k (qo_ok n) (.k (ql_ok n) .e)) (.k (fun _ => rfl) (fun _ => by kernel_rfl) .e) (by kernel_rfl) (by kernel_rfl) fun _ => by kernel_rfl
def qad_E (n : Nat) : aC := ⟨(SN [0] O3 .nil), [SY [0] Ok .nil], fun d => qad n d.1 d.2.1 d.2.2.1 d.2.2.2.1 d.2.2.2.2⟩
def qad_ls (n : Nat) : List (Nat × aL) := [(2, ⟨[SN [3, 16, 17, 18, 47, 48, 49] (u7 hQ hH hA hA hL hA hA) K3], [SX 2 [3, 16, 17, 18] (u4 hQ hH hA hA) K3], qad_W2 n⟩), (0, ⟨[SN [3, 16, 17, 18] (u4 hQ hH hA hA) K3], [SX 0 [3] pD K3], qad_W0 n⟩)]
theorem qad_ok (n : Nat) : aW Try.prog 43 (qad_E n) :=
 aW.bS n zz Try.f43 { live := [(0, [3, 16, 17, 18]), (2, [3, 16, 17, 18, 47, 48, 49])], boxed := [(7, 8), (13, 7)] } (qad_ls n) (.k (qo_ok n) (.k (qb_ok n) (.k (ql_ok n) (.k (qbz_ok n) (.k (qcc_ok n) .e))))) (.k (fun _ => rfl) (fun _ => by kernel_rfl) (.k (fun _ => rfl) (fun _ => by kernel_rfl) .e)) (by kernel_rfl) (by kernel_rfl) fun _ => by kernel_rfl
def qan_E (n : Nat) : aC := ⟨(SN [0] O3 .nil), [SY [0] Ok .nil], fun d => qan n d.1 d.2.1 d.2.2.1 d.2.2.2.1 d.2.2.2.2⟩
def qan_ls (n : Nat) : List (Nat × aL) := [(0, ⟨[SN [3, 14, 15, 16] (u4 hQ hI hA hA) K3], [SX 0 [3] pD K3], qan_W0 n⟩)]
theorem qan_ok (n : Nat) : aW Try.prog 44 (qan_E n) :=
 aW.bS n zz Try.f44 { live := [(0, [3, 14, 15, 16])], boxed := [(7, 8)] } (qan_ls n) (.k (qo_ok n) (.k (ql_ok n) (.k (qbz_ok n) .e))) (.k (fun _ => rfl) (fun _ => by kernel_rfl) .e) (by kernel_rfl) (by kernel_rfl) fun _ => by kernel_rfl
def qbw_E (n : Nat) : aC := ⟨(SN [0, 1] (u2 hB hA) .nil), [SY [0] Ok .nil], fun d => qbw n d.1 d.2⟩
def qbw_ls (n : Nat) : List (Nat × aL) := [(0, ⟨[SN [0, 5, 9, 10] (u4 hB hF hA hA) Pi], [SX 0 [5] (u1 hF) Pi], qbw_W0 n⟩)]
theorem qbw_ok (n : Nat) : aW Try.prog 76 (qbw_E n) :=
 aW.bS n zz Try.f76 { live := [(0, [0, 5, 9, 10])], boxed := [(1, 0), (5, 7)] } (qbw_ls n) .e (.k (fun _ => rfl) (fun _ => by kernel_rfl) .e) (by kernel_rfl) (by kernel_rfl) fun _ => by kernel_rfl
def qap_E (n : Nat) : aC := ⟨(SN [0] O3 .nil), [SY [0] Ok .nil], fun d => qap n d.1 d.2.1 d.2.2.1 d.2.2.2.1 d.2.2.2.2⟩
def qap_ls (n : Nat) : List (Nat × aL) := [(0, ⟨[SN [3, 14, 15, 16] (u4 hQ hY hA hA) K3], [SX 0 [3] pD K3], qap_W0 n⟩)]
theorem qap_ok (n : Nat) : aW Try.prog 45 (qap_E n) :=
 aW.bS n zz Try.f45 { live := [(0, [3, 14, 15, 16])], boxed := [(6, 7)] } (qap_ls n) (.k (qo_ok n) (.k (qbw_ok n) .e)) (.k (fun _ => rfl) (fun _ => by kernel_rfl) .e) (by kernel_rfl) (by kernel_rfl) fun _ => by kernel_rfl
def qbi_E (n : Nat) : aC := ⟨(SN [0] O3 .nil), [SY [0] Ok .nil], fun d => qbi n d.1 d.2.1 d.2.2.1 d.2.2.2.1 d.2.2.2.2⟩
def qbi_ls (n : Nat) : List (Nat × aL) := [(0, ⟨[SN [3, 14, 15, 16] (u4 hQ hJ hA hA) K3], [SX 0 [3] pD K3], qbi_W0 n⟩)]
theorem qbi_ok (n : Nat) : aW Try.prog 46 (qbi_E n) :=
 aW.bS n zz Try.f46 { live := [(0, [3, 14, 15, 16])], boxed := [(7, 6)] } (qbi_ls n) (.k (qo_ok n) (.k (qb_ok n) .e)) (.k (fun _ => rfl) (fun _ => by kernel_rfl) .e) (by kernel_rfl) (by kernel_rfl) fun _ => by kernel_rfl
def qbv_E (n : Nat) : aC := ⟨(SN [0] (u1 (.sl true false yF)) .nil), [SY [0] Ok .nil], fun d => qbv n d⟩
def qbv_ls (n : Nat) : List (Nat × aL) := [(0, ⟨[SN [3, 10, 11, 12] (u4 hF (.sl true false yF) hA hA) Pi], [SX 0 [3] (u1 hF) Pi], qbv_W0 n⟩)]
theorem qbv_ok (n : Nat) : aW Try.prog 41 (qbv_E n) :=
 aW.bS n zz Try.f41 { live := [(0, [3, 10, 11, 12])], boxed := [(5, 5), (6, 2)], raw := [(1, 3)] } (qbv_ls n) (.k (qce_ok n) .e) (.k (fun _ => rfl) (fun _ => by kernel_rfl) .e) (by kernel_rfl) (by kernel_rfl) fun _ => by kernel_rfl
def qbd_E (n : Nat) : aC := ⟨(SN [0] O3 .nil), [SY [0] (u1 (.tup (u2 hZ hA))) .nil], fun d => qbd n d.1 d.2.1 d.2.2.1 d.2.2.2.1 d.2.2.2.2⟩
theorem qbd_ok (n : Nat) : aW Try.prog 14 (qbd_E n) :=
 aW.bS n zz Try.f14 {} [] (.k (qbo_ok n) (.k (qaq_ok n) (.k (qad_ok n) (.k (qan_ok n) (.k (qap_ok n) (.k (qbi_ok n) (.k (qbv_ok n) .e))))))) .e (by kernel_rfl) (by kernel_rfl) fun _ => by kernel_rfl
def qay_E (n : Nat) : aC := ⟨(SN [0] (u1 Ou) .nil), [SY [0] pD HH], fun d => qay n d⟩
theorem qay_ok (n : Nat) : aW Try.prog 79 (qay_E n) :=
 aW.bS n zz Try.f79 {} [] .e .e (by kernel_rfl) (by kernel_rfl) fun _ => by kernel_rfl
def qba_E (n : Nat) : aC := ⟨(SN [0] pD HH), [SY [0] hE HH], fun d => qba n d.1 d.2⟩
theorem qba_ok (n : Nat) : aW Try.prog 115 (qba_E n) :=
 aW.bS n zz Try.f115 {} [] .e .e (by kernel_rfl) (by kernel_rfl) fun _ => by kernel_rfl
def qat_E (n : Nat) : aC := ⟨(SN [0] pD HH), [SY [0] hT HH], fun d => qat n d.1 d.2⟩
theorem qat_ok (n : Nat) : aW Try.prog 116 (qat_E n) :=
 aW.bS n zz Try.f116 {} [] .e .e (by kernel_rfl) (by kernel_rfl) fun _ => by kernel_rfl
def qax_E (n : Nat) : aC := ⟨(SN [0, 1] PA HH), [SY [0] Ok HH], fun d => qax n d.1 d.2.1 d.2.2⟩
theorem qax_ok (n : Nat) : aW Try.prog 94 (qax_E n) :=
 aW.bS n zz Try.f94 {} [] (.k (qba_ok n) (.k (qat_ok n) .e)) .e (by kernel_rfl) (by kernel_rfl) fun _ => by kernel_rfl
def qbb_E (n : Nat) : aC := ⟨(SN [0] pD HH), [SY [0] (u1 hB) HH], fun d => qbb n d.1 d.2⟩
def qbb_ls (n : Nat) : List (Nat × aL) := [(0, ⟨[SN [0, 3, 4] (u3 hQ hB hA) HH], [SY [2] (u1 hB) HH], qbb_W0 n⟩)]
theorem qbb_ok (n : Nat) : aW Try.prog 80 (qbb_E n) :=
 aW.bS n zz Try.f80 { live := [(0, [0, 3, 4])] } (qbb_ls n) (.k (qax_ok n) (.k (qat_ok n) .e)) (.k (fun _ => rfl) (fun _ => by kernel_rfl) .e) (by kernel_rfl) (by kernel_rfl) fun _ => by kernel_rfl
def qbs_E (n : Nat) : aC := ⟨(SN [0, 1] PA HH), [SY [0] (u1 (.tup (u2 hA .bool))) HH], fun d => qbs n d.1 d.2.1 d.2.2⟩
theorem qbs_ok (n : Nat) : aW Try.prog 113 (qbs_E n) :=
 aW.bS n zz Try.f113 {} [] (.k (qbb_ok n) (.k (qba_ok n) .e)) .e (by kernel_rfl) (by kernel_rfl) fun _ => by kernel_rfl
def qam_E (n : Nat) : aC := ⟨(SN [0] pD HH), [SY [0] hS HH], fun d => qam n d.1 d.2⟩
theorem qam_ok (n : Nat) : aW Try.prog 114 (qam_E n) :=
 aW.bS n zz Try.f114 {} [] (.k (qba_ok n) .e) .e (by kernel_rfl) (by kernel_rfl) fun _ => by kernel_rfl
def qbu_E (n : Nat) : aC := ⟨(SN [0, 1] (u2 Ou hA) .nil), [SY [0] (u1 (.tup Qg)) .nil], fun d => qbu n d.1 d.2⟩
def qbu_ls (n : Nat) : List (Nat × aL) := [(0, ⟨[SN [6, 9, 22, 23] (u4 hQ (.msw 1 0) hA hA) P6], [SY [4, 5] Qg P6, SY [4, 5] Qg (u2 C4 (.bts 1 false false false yF)), SX 0 [6, 9] (u2 hQ (.msw 1 0)) P6], qbu_W0 n⟩)]
theorem qbu_ok (n : Nat) : aW Try.prog 77 (qbu_E n) :=
 aW.bS n zz Try.f77 { live := [(0, [6, 9, 22, 23])], boxed := [(5, 0), (11, 5)] } (qbu_ls n) (.k (qay_ok n) (.k (qbs_ok n) (.k (qam_ok n) (.k (qax_ok n) (.k (qba_ok n) .e))))) (.k (fun _ => rfl) (fun _ => by kernel_rfl) .e) (by kernel_rfl) (by kernel_rfl) fun _ => by kernel_rfl
def qas_E (n : Nat) : aC := ⟨(SN [0, 1, 2] PF (u2 Ol Qy)), [SY [0] (u1 hU) (u4 Ol Qy PJ C4)], fun d => qas n d.1 d.2⟩
theorem qas_ok (n : Nat) : aW Try.prog 78 (qas_E n) :=
 aW.bS n zz Try.f78 {} [] (.k (qay_ok n) .e) .e (by kernel_rfl) (by kernel_rfl) fun _ => by kernel_rfl
def qj_E (n : Nat) : aC := ⟨(SN [0, 1] PA Io), [SY [0] hS Io], fun d => qj n d.1 d.2.1.1 d.2.1.2 d.2.2.1 d.2.2.2⟩
theorem qj_ok (n : Nat) : aW Try.prog 95 (qj_E n) :=
 aW.bS n zz Try.f95 {} [] (.k (qbb_ok n) (.k (qba_ok n) .e)) .e (by kernel_rfl) (by kernel_rfl) fun _ => by kernel_rfl
def qcd_E (n : Nat) : aC := ⟨(SN [0, 1] PA HH), [SY [0] (u1 (.tup (u2 PG .bool))) HH], fun d => qcd n d.1 d.2.1 d.2.2⟩
theorem qcd_ok (n : Nat) : aW Try.prog 117 (qcd_E n) :=
 aW.bS n zz Try.f117 {} [] (.k (qbb_ok n) (.k (qba_ok n) (.k (qbx_ok n) .e))) .e (by kernel_rfl) (by kernel_rfl) fun _ => by kernel_rfl
def qz_E (n : Nat) : aC := ⟨(SN [0] pD Io), [SY [0] (u1 PG) Io], fun d => qz n d.1.1 d.1.2 d.2.1 d.2.2⟩
theorem qz_ok (n : Nat) : aW Try.prog 84 (qz_E n) :=
 aW.bS n zz Try.f84 {} [] (.k (qcd_ok n) .e) .e (by kernel_rfl) (by kernel_rfl) fun _ => by kernel_rfl
def qc_E (n : Nat) : aC := ⟨(SN [0, 1, 2] (u3 hQ hA (.fn 84 pD .nil)) Io), [SY [0] (u1 hP) Io], fun d => qc n d.1 d.2.1.1 d.2.1.2 d.2.2.1 d.2.2.2⟩
def qc_ls (n : Nat) : List (Nat × aL) := [(0, ⟨[SN [0, 2, 7, 10, 11] (u5 hQ (.fn 84 pD .nil) hC hA hA) Qn], [SX 0 [7] (u1 hC) Qn], qc_W0 n⟩)]
theorem qc_ok (n : Nat) : aW Try.prog 83 (qc_E n) :=
 aW.bS n zz Try.f83 { live := [(0, [0, 2, 7, 10, 11])], boxed := [(1, 0), (5, 4)] } (qc_ls n) (.k (qj_ok n) (.k (qz_ok n) .e)) (.k (fun _ => rfl) (fun _ => by kernel_rfl) .e) (by kernel_rfl) (by kernel_rfl) fun _ => by kernel_rfl
def qaw_E (n : Nat) : aC := ⟨(SN [0] pD Pz), [SY [0] (u1 hP) Pz], fun d => qaw n d.1.1 d.1.2 d.2.1 d.2.2⟩
theorem qaw_ok (n : Nat) : aW Try.prog 82 (qaw_E n) :=
 aW.bS n zz Try.f82 {} [] (.k (qc_ok n) .e) .e (by kernel_rfl) (by kernel_rfl) fun _ => by kernel_rfl
def qk_E (n : Nat) : aC := ⟨(SN [0, 1, 2] (u3 hQ hA (.fn 82 .nil (u1 hR))) PC), [SY [0] (u1 hM) PC], fun d => qk n d.1 d.2.1.1 d.2.1.2 d.2.2.1 d.2.2.2⟩
def qk_ls (n : Nat) : List (Nat × aL) := [(0, ⟨[SN [0, 2, 7, 10, 11] (u5 hQ (.fn 82 .nil (u1 hR)) hD hA hA) (u4 O5 Pk C4 hX)], [SX 0 [7] (u1 hD) (u4 O5 Pk C4 hX)], qk_W0 n⟩)]
theorem qk_ok (n : Nat) : aW Try.prog 81 (qk_E n) :=
 aW.bS n zz Try.f81 { live := [(0, [0, 2, 7, 10, 11])], boxed := [(1, 0), (5, 4)] } (qk_ls n) (.k (qj_ok n) (.k (qaw_ok n) .e)) (.k (fun _ => rfl) (fun _ => by kernel_rfl) .e) (by kernel_rfl) (by kernel_rfl) fun _ => by kernel_rfl
def qae_E (n : Nat) : aC := ⟨(SN [0, 1, 2] PF (u2 Ol PW)), [SY [0] (u1 hU) (u4 Ol PW PJ C4)], fun d => qae n d.1 d.2.1 d.2.2⟩
theorem qae_ok (n : Nat) : aW Try.prog 78 (qae_E n) :=
 aW.bS n zz Try.f78 {} [] (.k (qay_ok n) .e) .e (by kernel_rfl) (by kernel_rfl) fun _ => by kernel_rfl
def qah_an : lA := {}
def qah_c : Code := GS Try.f91
def qah_a : jD := ⟨.normal, [0, 1], (.cons (.ptr 0 0 0 0) (.cons (.int .i64) .nil)), (.cons (.bcells 0 false 1 (.cons (.sl false false (.int .u8)) (.cons .bool .nil))) .nil)⟩
def qbc_E (n : Nat) : aC := ⟨(SN [0] (u1 Ou) .nil), [SY [0] (u1 (.fn 123 .nil pD)) (u1 (.bcells 0 false 1 (u1 Ou)))], fun d => qbc n d⟩
theorem qbc_ok (n : Nat) : aW Try.prog 120 (qbc_E n) :=
 aW.bS n zz Try.f120 {} [] .e .e (by kernel_rfl) (by kernel_rfl) fun _ => by kernel_rfl
def qah_res : List jD := [⟨.ret, [0], (.cons (.int .u64) .nil), (.cons (.bcells 0 false 1 (.cons (.sl false false (.int .u8)) (.cons .bool .nil))) .nil)⟩]
def qah_tbl (n : Nat) : FuncId → List aC := fun f => bif Nat.beq f 94 then [qax_E n] else bif Nat.beq f 120 then [qbc_E n] else []
def qah_E (n : Nat) : aC := ⟨qah_a, qah_res, fun d => qah n d.1 d.2.1 d.2.2⟩
end
end Sx
