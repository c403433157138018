import Derived.Test.YtdlbbdbbpoggfaaProg
import Derived.Test.YtdlbbdbbpoggfaaLib35
import Derived.Test.YtdlbbdbbpoggfaaScSh
open Go Go.Ab Go.Proofs
set_option linter.unusedVariables false
set_option maxRecDepth 20000
namespace Sx
noncomputable section
def bodyC (f : Func) : Code := (match f.body with | some c => c | none => .skip)
def loopC (b : Nat) (c : Code) : Code := (match assoc b (loopsIn c 0) with | some c => c | none => .skip)
abbrev yA : Ty := (.cons (.int .i64) (.cons (.int .i64) (.cons (.sl false (.int .u64)) (.sl false (.int .u64)))))
abbrev yB : Ty := (.cons (.int .i64) (.cons (.int .i64) (.cons (.sl false (.int .u64)) (.sl false (.int .u8)))))
abbrev yC : Ty := (.cons (.int .i64) (.cons (.int .u64) .bool))
abbrev yD : Ty := (.sl true (.cons (.int .i64) (.int .i64)))
abbrev yE : Ty := (.cons (.sl true (.cons (.int .i64) (.int .i64))) (.cons (.int .i64) (.cons (.int .i64) (.cons (.sl true (.cons (.int .i64) (.int .i64))) (.sl true (.cons (.int .i64) (.cons (.int .i64) (.int .i64))))))))
abbrev yF : Ty := (.cons (.sl true (.cons (.int .i64) (.int .i64))) (.cons (.int .i64) (.int .i64)))
abbrev yG : Ty := (.cons (.int .i64) (.int .i64))
abbrev yH : Ty := (.cons (.int .i64) (.cons (.int .i64) (.int .i64)))
abbrev yI : Ty := (.sl false (.int .u8))
def gtabL : DH := []
instance gTab : GTab := ⟨fun g => assoc g gtabL⟩
abbrev xA : Ty := .int .i64
abbrev xB : Ty := .sl false (.int .u64)
abbrev xC : Ty := .sl false (.int .u8)
abbrev xD : Ty := .sl true (.cons xA xA)
abbrev xE : Ty := .cons xA (.cons (.int .u64) .bool)
abbrev xF : Ty := .sl true (.cons xA (.cons xA xA))
abbrev xG : Ty := .sl true (.cons xD (.cons xA xA))
abbrev xH : Ty := .cons xA (.cons xA (.cons xB xB))
abbrev xI : Ty := .cons xA (.cons xA (.cons xB xC))
abbrev xJ : Ty := .cons xD (.cons xA (.cons xA (.cons xD xF)))
abbrev zi : Value := .int .i64 0
abbrev zl : Value := .slice none 0 0
abbrev zu : Value := .int .u64 0
abbrev zp : Value := .pointer none
abbrev zt : Value := .string (ByteArray.mk (List.toArray []))
def tA : TI := ⟨.int .i64, 1, 8, false, some xA, false, [zi]⟩
def tB : TI := ⟨.bool, 1, 1, false, some .bool, false, [.bool false]⟩
def tC : TI := ⟨.int .u8, 1, 1, false, some (.int .u8), false, [.int .u8 0]⟩
def tD : TI := ⟨.st [(0, 1, 2), (1, 1, 3), (2, 1, 4), (3, 1, 6)], 4, 24, true, some (.cons xA (.cons xA (.cons .bool (.int .u8)))), true, [zi, zi, .bool false, .int .u8 0]⟩
def tE : TI := ⟨.str, 1, 16, false, some .str, false, [zt]⟩
def tF : TI := ⟨.int .u64, 1, 8, false, some (.int .u64), false, [zu]⟩
def tG : TI := ⟨.st [(0, 1, 9), (1, 1, 12)], 2, 24, true, some (.cons .str (.int .u64)), false, [zt, zu]⟩
def tH : TI := ⟨.ptr, 1, 8, false, none, false, [zp]⟩
def tI : TI := ⟨.st [(0, 1, 17)], 1, 8, true, none, false, [zp]⟩
def tJ : TI := ⟨.int .i32, 1, 4, false, some (.int .i32), false, [.int .i32 0]⟩
def tK : TI := ⟨.st [(0, 1, 3), (1, 1, 3)], 2, 16, true, some (.cons xA xA), true, [zi, zi]⟩
def tL : TI := ⟨.sl 23, 1, 24, false, some xD, false, [zl]⟩
def tM : TI := ⟨.sl 40, 1, 24, false, some xF, false, [zl]⟩
def tN : TI := ⟨.st [(0, 1, 24), (1, 2, 23), (3, 1, 24), (4, 1, 25)], 5, 88, true, some xJ, false, [zl, zi, zi, zl, zl]⟩
def tO : TI := ⟨.sl 27, 1, 24, false, some (.sl true xJ), false, [zl]⟩
def tP : TI := ⟨.sl 24, 1, 24, false, some (.sl false xD), false, [zl]⟩
def tQ : TI := ⟨.sl 38, 1, 24, false, some xG, false, [zl]⟩
def tR : TI := ⟨.sl 36, 1, 24, false, some xB, false, [zl]⟩
def tS : TI := ⟨.sl 9, 1, 24, false, some (.sl false .str), false, [zl]⟩
def tT : TI := ⟨.st [(0, 1, 29), (1, 1, 28), (2, 1, 30), (3, 1, 31), (4, 1, 32)], 5, 120, true, some (.cons (.sl false xD) (.cons (.sl true xJ) (.cons xG (.cons xB (.sl false .str))))), false, [zl, zl, zl, zl, zl]⟩
def tU : TI := ⟨.sl 3, 1, 24, false, some (.sl false xA), false, [zl]⟩
def tV : TI := ⟨.st [(0, 1, 24), (1, 2, 23)], 3, 40, true, some (.cons xD (.cons xA xA)), false, [zl, zi, zi]⟩
def tW : TI := ⟨.st [(0, 1, 3), (1, 1, 3), (2, 1, 3)], 3, 24, true, some (.cons xA (.cons xA xA)), true, [zi, zi, zi]⟩
def tX : TI := ⟨.sl 54, 1, 24, false, some (.sl true xH), false, [zl]⟩
def tY : TI := ⟨.sl 57, 1, 24, false, some (.sl true xI), false, [zl]⟩
def tZ : TI := ⟨.sl 59, 1, 24, false, some (.sl true xE), false, [zl]⟩
def tAA : TI := ⟨.st [(0, 1, 45), (1, 1, 46), (2, 1, 47), (3, 1, 3), (4, 1, 3), (5, 1, 3), (6, 1, 36)], 7, 104, true, some (.cons (.sl true xH) (.cons (.sl true xI) (.cons (.sl true xE) (.cons xA (.cons xA (.cons xA (.int .u64))))))), false, [zl, zl, zl, zi, zi, zi, zu]⟩
def tAB : TI := ⟨.st [(0, 1, 3), (1, 1, 3), (2, 1, 31), (3, 1, 31)], 4, 64, true, some xH, false, [zi, zi, zl, zl]⟩
def tAC : TI := ⟨.sl 5, 1, 24, false, some xC, false, [zl]⟩
def tAD : TI := ⟨.st [(0, 1, 3), (1, 1, 3), (2, 1, 31), (3, 1, 55)], 4, 64, true, some xI, false, [zi, zi, zl, zl]⟩
def tAE : TI := ⟨.st [(0, 1, 3), (1, 1, 36), (2, 1, 4)], 3, 24, true, some xE, true, [zi, zu, .bool false]⟩
def tAF : TI := ⟨.sl 55, 1, 24, false, some (.sl false xC), false, [zl]⟩
def tAG : TI := ⟨.int .u32, 1, 4, false, some (.int .u32), false, [.int .u32 0]⟩
def tAH : TI := ⟨.st [(0, 1, 55)], 1, 24, true, some xC, false, [zl]⟩
def tAI : TI := ⟨.st [(0, 1, 118), (1, 1, 3), (2, 1, 4)], 3, 24, true, none, false, [zp, zi, .bool false]⟩
def tAJ : TI := ⟨.arr 2 3, 2, 16, true, none, false, [zi, zi]⟩
def tAK : TI := ⟨.st [(0, 1, 55), (1, 1, 4)], 2, 32, true, some (.cons xC .bool), false, [zl, .bool false]⟩
def tAL : TI := ⟨.arr 2 36, 2, 16, true, none, false, [zu, zu]⟩
def tAM : TI := ⟨.st [(0, 1, 17), (1, 1, 17), (2, 1, 17), (3, 1, 9)], 4, 40, true, none, false, [zp, zp, zp, zt]⟩
def tAN : TI := ⟨.arr 0 16, 0, 0, true, none, false, []⟩
def tAO : TI := ⟨.st [(0, 0, 172)], 0, 0, true, none, false, []⟩
def tAP : TI := ⟨.other, 1, 8, false, none, false, [zp]⟩
def tabL : List (Nat × TI) := [(2, tA), (3, tA), (4, tB), (5, tC), (6, tC), (7, tD), (8, tD), (9, tE), (10, tE), (11, tE), (12, tF), (13, tG), (14, tG), (15, tH), (16, tH), (17, tH), (18, tI), (19, tI), (21, tJ), (22, tK), (23, tK), (24, tL), (25, tM), (26, tN), (27, tN), (28, tO), (29, tP), (30, tQ), (31, tR), (32, tS), (33, tT), (34, tT), (35, tU), (36, tF), (37, tV), (38, tV), (39, tW), (40, tW), (41, tA), (45, tX), (46, tY), (47, tZ), (48, tAA), (49, tAA), (53, tAB), (54, tAB), (55, tAC), (56, tAD), (57, tAD), (58, tAE), (59, tAE), (84, tAF), (88, tAG), (107, tH), (108, tAH), (109, tAH), (117, tH), (118, tH), (120, tAI), (121, tAI), (150, tF), (152, tAJ), (156, tAK), (157, tAK), (169, tAL), (170, tAM), (171, tAM), (172, tAN), (173, tAO), (174, tAO), (175, tC), (176, tC), (178, tH), (179, tJ), (180, tJ), (183, tAP)]
def tab : TypeId → Option TI := fun t => assoc t tabL
theorem zqv : TabOK Try.prog tab := (show TabOK Try.prog (fun t => assoc t tabL) from TabOK.of_list _ (by kernel_rfl))
theorem zmR : namesOK Try.prog = true := by kernel_rfl
theorem znq : Try.prog.follows .mixedOrders = true := by kernel_rfl
theorem zz : POK Try.prog tab := ⟨zmR, znq, zqv⟩
abbrev hA : Sh := .int .i64
abbrev hB : Sh := .int .u64
abbrev hC : Sh := u1 .bool
abbrev hD : Sh := .msw 0 0
abbrev hE : Sh := .msw 3 0
abbrev hF : Sh := .sl true true yA
abbrev hG : Sh := .sl true true yB
abbrev hH : Sh := .sl true true yC
abbrev hI : Sh := .sl true false yD
abbrev hJ : Sh := .sl true true yE
abbrev hK : Sh := .sl true true yF
abbrev hL : Sh := .sl true false .str
abbrev hM : Sh := .sl true true yG
abbrev hN : Sh := .sl true true yH
abbrev hO : Sh := .ptr 0 0 0 0
abbrev hP : Sh := .ptr 1 0 0 0
abbrev hQ : Sh := .ptr 2 0 0 0
abbrev hR : Sh := u1 hA
abbrev hS : Sh := u1 (.tup .nil)
abbrev hT : Sh := .bts 0 false false true yC
abbrev hU : Sh := .sl true false (.int .u64)
abbrev hV : Sh := .sl false false (.int .u8)
abbrev hW : Sh := u1 hD
abbrev hX : Sh := u1 (.ms 0 0)
abbrev hY : Sh := .sl true false (.int .u8)
abbrev hZ : Sh := .bts 0 false false true yA
abbrev hAA : Sh := .bts 0 false false true yB
abbrev hAB : Sh := .bts 0 false false false (.int .u64)
abbrev hAC : Sh := .bts 0 false false false (.int .u8)
abbrev hAD : Sh := u1 hO
abbrev hAE : Sh := u1 hV
abbrev hAF : Sh := u1 hAC
abbrev hAG : Sh := .agg (u2 hA hA)
abbrev hAH : Sh := u1 (.bcells 0 false 1 hR)
abbrev hAI : Sh := .agg (u3 hA hA hA)
abbrev hAJ : Sh := u1 (.agg (u2 (.ptrI 0 0 2) (.msw 6 0)))
abbrev hAK : Sh := u1 (.agg (u2 (.ptrI 0 0 3) (.msw 6 0)))
abbrev hAL : Sh := u3 hO hP hQ
abbrev hAM : Sh := u4 hO hJ hA hA
abbrev hAN : Sh := u2 (.bcells 0 false 1 (u1 (.msw 1 0))) hAC
abbrev hAO : Sh := u2 (.bcells 0 false 1 (u1 (.msw 1 1))) (.bts 1 false false false (.int .u8))
abbrev hAP : Sh := .bos 0 false (.cons (.int .i64) (.cons (.int .i64) (.cons (.sl false (.int .u64)) (.sl false (.int .u64))))) .nil
abbrev hAQ : Sh := .bos 0 false (.cons (.int .i64) (.cons (.int .i64) (.cons (.sl false (.int .u64)) (.sl false (.int .u8))))) .nil
abbrev hAR : Sh := u4 hO hP hQ hA
abbrev hAS : Sh := u2 hAC (.bcells 0 false 1 (u2 hA hA))
abbrev hAT : Sh := u2 hN (.fn 16 .nil (u2 hO hP))
abbrev hAU : Sh := .agg (u4 hA hA hU hY)
abbrev hAV : Sh := .agg (u5 hM hA hA hM hN)
abbrev hAW : Sh := .bcells 0 false 1 (u4 hA hA hU hU)
abbrev hAX : Sh := .bcells 0 false 1 (u4 hA hA hU hY)
abbrev hAY : Sh := u5 hO hP hQ hA hA
abbrev hAZ : Sh := .bcells 0 false 1 (u7 .nilS .nilS .nilS hA hA hA hB)
abbrev hBA : Sh := .agg (u5 hI hJ hK hU hL)
abbrev hBB : Sh := u7 (.sl false true yA) (.sl false true yB) (.sl false true yC) hA hA hA hB
abbrev hBC : Sh := u1 hBA
abbrev hBD : Sh := .bcells 0 false 1 (u5 hI hJ hK hU hL)
abbrev hBE : Sh := .agg (u7 hF hG hH hA hA hA hB)
abbrev hBF : Sh := .bcells 0 false 1 (u7 (.ms 3 0) (.ms 4 0) (.ms 5 0) hA hA hA hB)
abbrev hBG : Sh := .bcells 0 false 1 (u7 hF hG hH hA hA hA hB)
abbrev hBH : Sh := .bcells 0 false 1 hBB
abbrev hBI : Sh := u2 hBD (.bcells 0 false 1 (u5 hM hA hA hM hN))
abbrev hBJ : Sh := u4 hBG hAZ (.bcells 0 false 1 (u7 .nilS .nilS hE hA hA hA hB)) hT
abbrev hBK : Sh := u5 hBG hAZ (.bcells 0 false 1 (u7 hE .nilS (.msw 4 0) hA hA hA hB)) hZ hT
abbrev hBL : Sh := u5 hBG hAZ (.bcells 0 false 1 (u7 .nilS hE (.msw 4 0) hA hA hA hB)) hAA hT
abbrev hBM : Sh := u6 hBG hAZ (.bcells 0 false 1 (u7 hE (.msw 4 0) (.msw 5 0) hA hA hA hB)) hZ hAA hT
abbrev hBN : Sh := u6 hBG hBH hBF hAP hAQ hT
def qba_E (n : Nat) : Entry := ⟨(SN [0] (u1 hBE) .nil), [SY [0] hC .nil], fun d => qba n d.1 d.2.1 d.2.2.1 d.2.2.2.1 d.2.2.2.2.1 d.2.2.2.2.2.1 d.2.2.2.2.2.2⟩
def qba_ls (n : Nat) : List (Nat × LEntry) := [(0, ⟨[SN [1, 3, 4] (u3 hO hA hA) (u1 hBG)], [SX 0 [1, 3] (u2 hO hA) (u1 hBG)], qba_W0 n⟩), (2, ⟨[SN [1, 3, 5] (u3 hO hA hA) (u1 hBG)], [SX 2 [3] hR (u1 hBG)], qba_W2 n⟩)]
theorem qba_ok (n : Nat) : EOK Try.prog 8 (qba_E n) :=
 EOK.bS n zz Try.f8 { live := [(0, [1, 3, 4]), (2, [1, 3, 5])] } (qba_ls n) .e (.k (fun _ => rfl) (fun _ => by kernel_rfl) (.k (fun _ => rfl) (fun _ => by kernel_rfl) .e)) (by kernel_rfl) (by kernel_rfl) fun _ => by kernel_rfl
def qbx_E (n : Nat) : Entry := ⟨(SN [0, 1] (u2 hAG hA) .nil), [SY [0] hC .nil], fun d => qbx n d.1.1 d.1.2 d.2⟩
theorem qbx_ok (n : Nat) : EOK Try.prog 68 (qbx_E n) :=
 EOK.bS n zz Try.f68 {} [] .e .e (by kernel_rfl) (by kernel_rfl) fun _ => by kernel_rfl
def qao_E (n : Nat) : Entry := ⟨(SN [0, 1] (u2 hAG hO) hAH), [SY [0] hC hAH], fun d => qao n d.1.1 d.1.2 d.2⟩
theorem qao_ok (n : Nat) : EOK Try.prog 107 (qao_E n) :=
 EOK.bS n zz Try.f107 {} [] (.k (qbx_ok n) .e) .e (by kernel_rfl) (by kernel_rfl) fun _ => by kernel_rfl
def qac_E (n : Nat) : Entry := ⟨(SN [0, 1] (u2 hM (.fn 107 .nil hAD)) hAH), [SY [0] hR hAH], fun d => qac n d.1 d.2⟩
def qac_ls (n : Nat) : List (Nat × LEntry) := [(0, ⟨[SN [0, 1, 7, 8] (u4 hM (.fn 107 .nil hAD) hA hA) hAH], [SY [4] hR hAH, SX 0 [] .nil hAH], qac_W0 n⟩)]
theorem qac_ok (n : Nat) : EOK Try.prog 52 (qac_E n) :=
 EOK.bS n zz Try.f52 { live := [(0, [0, 1, 7, 8])] } (qac_ls n) (.k (qao_ok n) .e) (.k (fun _ => rfl) (fun _ => by kernel_rfl) .e) (by kernel_rfl) (by kernel_rfl) fun _ => by kernel_rfl
def qm_E (n : Nat) : Entry := ⟨(SN [0, 1] (u2 hM (.fn 107 .nil hAD)) hAH), [SY [0] hC hAH], fun d => qm n d.1 d.2⟩
theorem qm_ok (n : Nat) : EOK Try.prog 19 (qm_E n) :=
 EOK.bS n zz Try.f19 {} [] (.k (qac_ok n) .e) .e (by kernel_rfl) (by kernel_rfl) fun _ => by kernel_rfl
def qbc_E (n : Nat) : Entry := ⟨(SN [0, 1, 2] (u3 hM hA hA) .nil), [SY [0] hC .nil], fun d => qbc n d.1 d.2.1 d.2.2⟩
theorem qbc_ok (n : Nat) : EOK Try.prog 63 (qbc_E n) :=
 EOK.bS n zz Try.f63 {} [] (.k (qm_ok n) .e) .e (by kernel_rfl) (by kernel_rfl) fun _ => by kernel_rfl
def qat_E (n : Nat) : Entry := ⟨(SN [0, 1] (u2 hM hO) hAH), [SY [0] hC hAH], fun d => qat n d.1 d.2⟩
theorem qat_ok (n : Nat) : EOK Try.prog 62 (qat_E n) :=
 EOK.bS n zz Try.f62 {} [] (.k (qbc_ok n) .e) .e (by kernel_rfl) (by kernel_rfl) fun _ => by kernel_rfl
def qq_E (n : Nat) : Entry := ⟨(SN [0, 1] (u2 hI (.fn 62 .nil hAD)) hAH), [SY [0] hR hAH], fun d => qq n d.1 d.2⟩
def qq_ls (n : Nat) : List (Nat × LEntry) := [(0, ⟨[SN [0, 1, 7, 8] (u4 hI (.fn 62 .nil hAD) hA hA) hAH], [SY [4] hR hAH, SX 0 [] .nil hAH], qq_W0 n⟩)]
theorem qq_ok (n : Nat) : EOK Try.prog 106 (qq_E n) :=
 EOK.bS n zz Try.f106 { live := [(0, [0, 1, 7, 8])] } (qq_ls n) (.k (qat_ok n) .e) (.k (fun _ => rfl) (fun _ => by kernel_rfl) .e) (by kernel_rfl) (by kernel_rfl) fun _ => by kernel_rfl
def qg_E (n : Nat) : Entry := ⟨(SN [0, 1] (u2 hI (.fn 62 .nil hAD)) hAH), [SY [0] hC hAH], fun d => qg n d.1 d.2⟩
theorem qg_ok (n : Nat) : EOK Try.prog 61 (qg_E n) :=
 EOK.bS n zz Try.f61 {} [] (.k (qq_ok n) .e) .e (by kernel_rfl) (by kernel_rfl) fun _ => by kernel_rfl
def qbu_E (n : Nat) : Entry := ⟨(SN [0] hR .nil), [SY [0] hR .nil], fun d => qbu n d⟩
theorem qbu_ok (n : Nat) : EOK Try.prog 111 (qbu_E n) :=
 EOK.bS n zz Try.f111 {} [] .e .e (by kernel_rfl) (by kernel_rfl) fun _ => by kernel_rfl
def qcc_E (n : Nat) : Entry := ⟨(SN [0, 1] (u2 hA .bool) .nil), [SY [0] hC .nil], fun d => qcc n d.1 d.2⟩
theorem qcc_ok (n : Nat) : EOK Try.prog 112 (qcc_E n) :=
 EOK.bS n zz Try.f112 {} [] .e .e (by kernel_rfl) (by kernel_rfl) fun _ => by kernel_rfl
def qcf_E (n : Nat) : Entry := ⟨(SN [0] (u1 hB) .nil), [SY [0] hW hAF], fun d => qcf n d⟩
def qcf_ls (n : Nat) : List (Nat × LEntry) := [(0, ⟨[SN [0, 3] (u2 hB hD) hAF], [SX 0 [0, 3] (u2 hB hD) hAF], qcf_W0 n⟩)]
theorem qcf_ok (n : Nat) : EOK Try.prog 71 (qcf_E n) :=
 EOK.b n zz Try.f71 { live := [(0, [0, 3])], boxed := [(0, 0), (1, 0), (4, 5), (5, 4)] } (qcf_ls n) .e (.k (fun _ => rfl) (fun _ => by kernel_rfl) .e) (by kernel_rfl) (by kernel_rfl) fun _ => by kernel_rfl
def qcd_E (n : Nat) : Entry := ⟨(SN [0] (u1 hAI) .nil), [SY [0] hAE .nil], fun d => qcd n d.1 d.2.1 d.2.2⟩
def qcd_ls (n : Nat) : List (Nat × LEntry) := [(0, ⟨[SN [4, 39, 40, 41] (u4 hD (.ms 1 0) hA hA) hAS], [SX 0 [4] hW hAS], qcd_W0 n⟩)]
theorem qcd_ok (n : Nat) : EOK Try.prog 75 (qcd_E n) :=
 EOK.bS n zz Try.f75 { live := [(0, [4, 39, 40, 41])], boxed := [(4, 3), (9, 4)] } (qcd_ls n) (.k (qbu_ok n) (.k (qcc_ok n) (.k (qcf_ok n) .e))) (.k (fun _ => rfl) (fun _ => by kernel_rfl) .e) (by kernel_rfl) (by kernel_rfl) fun _ => by kernel_rfl
def qx_E (n : Nat) : Entry := ⟨(SN [0] (u1 hAI) .nil), [SY [0] hC .nil], fun d => qx n d.1 d.2.1 d.2.2⟩
theorem qx_ok (n : Nat) : EOK Try.prog 109 (qx_E n) :=
 EOK.bS n zz Try.f109 {} [] (.k (qcd_ok n) .e) .e (by kernel_rfl) (by kernel_rfl) fun _ => by kernel_rfl
def qw_E (n : Nat) : Entry := ⟨(SN [0, 1] (u2 hN (.fn 109 .nil .nil)) .nil), [SY [0] hR .nil], fun d => qw n d⟩
def qw_ls (n : Nat) : List (Nat × LEntry) := [(0, ⟨[SN [0, 1, 7, 8] (u4 hN (.fn 109 .nil .nil) hA hA) .nil], [SY [4] hR .nil, SX 0 [] .nil .nil], qw_W0 n⟩)]
theorem qw_ok (n : Nat) : EOK Try.prog 51 (qw_E n) :=
 EOK.bS n zz Try.f51 { live := [(0, [0, 1, 7, 8])] } (qw_ls n) (.k (qx_ok n) .e) (.k (fun _ => rfl) (fun _ => by kernel_rfl) .e) (by kernel_rfl) (by kernel_rfl) fun _ => by kernel_rfl
def ql_E (n : Nat) : Entry := ⟨(SN [0, 1] (u2 hN (.fn 109 .nil .nil)) .nil), [SY [0] hC .nil], fun d => ql n d⟩
theorem ql_ok (n : Nat) : EOK Try.prog 18 (ql_E n) :=
 EOK.bS n zz Try.f18 {} [] (.k (qw_ok n) .e) .e (by kernel_rfl) (by kernel_rfl) fun _ => by kernel_rfl
def qad_E (n : Nat) : Entry := ⟨(SN [0, 1] (u2 hAV hA) .nil), [SY [0] hC .nil], fun d => qad n d.1.1 d.1.2.1 d.1.2.2.1 d.1.2.2.2.1 d.1.2.2.2.2 d.2⟩
theorem qad_ok (n : Nat) : EOK Try.prog 66 (qad_E n) :=
 EOK.bS n zz Try.f66 {} [] (.k (qbc_ok n) (.k (qbx_ok n) (.k (ql_ok n) .e))) .e (by kernel_rfl) (by kernel_rfl) fun _ => by kernel_rfl
def qar_E (n : Nat) : Entry := ⟨(SN [0, 1] (u2 hAV hO) hAH), [SY [0] hC hAH], fun d => qar n d.1.1 d.1.2.1 d.1.2.2.1 d.1.2.2.2.1 d.1.2.2.2.2 d.2⟩
theorem qar_ok (n : Nat) : EOK Try.prog 65 (qar_E n) :=
 EOK.bS n zz Try.f65 {} [] (.k (qad_ok n) .e) .e (by kernel_rfl) (by kernel_rfl) fun _ => by kernel_rfl
def qaa_E (n : Nat) : Entry := ⟨(SN [0, 1] (u2 hJ (.fn 65 .nil hAD)) hAH), [SY [0] hR hAH], fun d => qaa n d.1 d.2⟩
def qaa_ls (n : Nat) : List (Nat × LEntry) := [(0, ⟨[SN [0, 1, 7, 8] (u4 hJ (.fn 65 .nil hAD) hA hA) hAH], [SY [4] hR hAH, SX 0 [] .nil hAH], qaa_W0 n⟩)]
theorem qaa_ok (n : Nat) : EOK Try.prog 108 (qaa_E n) :=
 EOK.bS n zz Try.f108 { live := [(0, [0, 1, 7, 8])] } (qaa_ls n) (.k (qar_ok n) .e) (.k (fun _ => rfl) (fun _ => by kernel_rfl) .e) (by kernel_rfl) (by kernel_rfl) fun _ => by kernel_rfl
def qn_E (n : Nat) : Entry := ⟨(SN [0, 1] (u2 hJ (.fn 65 .nil hAD)) hAH), [SY [0] hC hAH], fun d => qn n d.1 d.2⟩
theorem qn_ok (n : Nat) : EOK Try.prog 64 (qn_E n) :=
 EOK.bS n zz Try.f64 {} [] (.k (qaa_ok n) .e) .e (by kernel_rfl) (by kernel_rfl) fun _ => by kernel_rfl
def qan_E (n : Nat) : Entry := ⟨(SN [0, 1] (u2 (.agg (u3 hM hA hA)) hO) hAH), [SY [0] hC hAH], fun d => qan n d.1.1 d.1.2.1 d.1.2.2 d.2⟩
theorem qan_ok (n : Nat) : EOK Try.prog 67 (qan_E n) :=
 EOK.bS n zz Try.f67 {} [] (.k (qbc_ok n) (.k (qbx_ok n) .e)) .e (by kernel_rfl) (by kernel_rfl) fun _ => by kernel_rfl
def qp_E (n : Nat) : Entry := ⟨(SN [0, 1] (u2 hK (.fn 67 .nil hAD)) hAH), [SY [0] hR hAH], fun d => qp n d.1 d.2⟩
def qp_ls (n : Nat) : List (Nat × LEntry) := [(0, ⟨[SN [0, 1, 7, 8] (u4 hK (.fn 67 .nil hAD) hA hA) hAH], [SY [4] hR hAH, SX 0 [] .nil hAH], qp_W0 n⟩)]
theorem qp_ok (n : Nat) : EOK Try.prog 53 (qp_E n) :=
 EOK.bS n zz Try.f53 { live := [(0, [0, 1, 7, 8])] } (qp_ls n) (.k (qan_ok n) .e) (.k (fun _ => rfl) (fun _ => by kernel_rfl) .e) (by kernel_rfl) (by kernel_rfl) fun _ => by kernel_rfl
def qd_E (n : Nat) : Entry := ⟨(SN [0, 1] (u2 hK (.fn 67 .nil hAD)) hAH), [SY [0] hC hAH], fun d => qd n d.1 d.2⟩
theorem qd_ok (n : Nat) : EOK Try.prog 24 (qd_E n) :=
 EOK.bS n zz Try.f24 {} [] (.k (qp_ok n) .e) .e (by kernel_rfl) (by kernel_rfl) fun _ => by kernel_rfl
def qal_E (n : Nat) : Entry := ⟨(SN [0] (u1 .str) .nil), [SY [0] hC .nil], fun d => qal n d⟩
theorem qal_ok (n : Nat) : EOK Try.prog 70 (qal_E n) :=
 EOK.bS n zz Try.f70 {} [] .e .e (by kernel_rfl) (by kernel_rfl) fun _ => by kernel_rfl
def qs_E (n : Nat) : Entry := ⟨(SN [0, 1] (u2 hL (.fn 70 .nil .nil)) .nil), [SY [0] hR .nil], fun d => qs n d⟩
def qs_ls (n : Nat) : List (Nat × LEntry) := [(0, ⟨[SN [0, 1, 7, 8] (u4 hL (.fn 70 .nil .nil) hA hA) .nil], [SY [4] hR .nil, SX 0 [] .nil .nil], qs_W0 n⟩)]
theorem qs_ok (n : Nat) : EOK Try.prog 110 (qs_E n) :=
 EOK.bS n zz Try.f110 { live := [(0, [0, 1, 7, 8])] } (qs_ls n) (.k (qal_ok n) .e) (.k (fun _ => rfl) (fun _ => by kernel_rfl) .e) (by kernel_rfl) (by kernel_rfl) fun _ => by kernel_rfl
def qf_E (n : Nat) : Entry := ⟨(SN [0, 1] (u2 hL (.fn 70 .nil .nil)) .nil), [SY [0] hC .nil], fun d => qf n d⟩
theorem qf_ok (n : Nat) : EOK Try.prog 69 (qf_E n) :=
 EOK.bS n zz Try.f69 {} [] (.k (qs_ok n) .e) .e (by kernel_rfl) (by kernel_rfl) fun _ => by kernel_rfl
def qaz_E (n : Nat) : Entry := ⟨(SN [0] hBC .nil), [SY [0] hC .nil], fun d => qaz n d.1 d.2.1 d.2.2.1 d.2.2.2.1 d.2.2.2.2⟩
theorem qaz_ok (n : Nat) : EOK Try.prog 40 (qaz_E n) :=
 EOK.bS n zz Try.f40 {} [] (.k (qg_ok n) (.k (qn_ok n) (.k (qd_ok n) (.k (qf_ok n) .e)))) .e (by kernel_rfl) (by kernel_rfl) fun _ => by kernel_rfl
def qk_E (n : Nat) : Entry := ⟨(SN [0, 1] (u2 hO hA) (u1 (.bcells 0 false 1 (u1 .nilS)))), [SY [0] hS hAN], fun d => qk n d⟩
theorem qk_ok (n : Nat) : EOK Try.prog 72 (qk_E n) :=
 EOK.bS n zz Try.f72 { boxed := [(0, 8)] } [] (.k (qcf_ok n) .e) .e (by kernel_rfl) (by kernel_rfl) fun _ => by kernel_rfl
def qb_E (n : Nat) : Entry := ⟨(SN [0, 1] (u2 hO hA) hAN), [SY [0] hS hAO], fun d => qb n d.1 d.2⟩
theorem qb_ok (n : Nat) : EOK Try.prog 72 (qb_E n) :=
 EOK.bS n zz Try.f72 { boxed := [(0, 8)] } [] (.k (qcf_ok n) .e) .e (by kernel_rfl) (by kernel_rfl) fun _ => by kernel_rfl
def qcb_E (n : Nat) : Entry := ⟨(SN [0] (u1 hAG) .nil), [SY [0] hAE .nil], fun d => qcb n d.1 d.2⟩
theorem qcb_ok (n : Nat) : EOK Try.prog 74 (qcb_E n) :=
 EOK.bS n zz Try.f74 { raw := [(1, 4)] } [] (.k (qcf_ok n) .e) .e (by kernel_rfl) (by kernel_rfl) fun _ => by kernel_rfl
def qj_E (n : Nat) : Entry := ⟨(SN [0, 1] (u2 hO hM) hAN), [SY [0] hS hAO], fun d => qj n d.1 d.2⟩
def qj_ls (n : Nat) : List (Nat × LEntry) := [(0, ⟨[SN [0, 10, 11, 12] (u4 hO hM hA hA) hAO], [SX 0 [] .nil hAO], qj_W0 n⟩)]
theorem qj_ok (n : Nat) : EOK Try.prog 73 (qj_E n) :=
 EOK.bS n zz Try.f73 { live := [(0, [0, 10, 11, 12])], boxed := [(4, 7)] } (qj_ls n) (.k (qb_ok n) (.k (qcb_ok n) .e)) (.k (fun _ => rfl) (fun _ => by kernel_rfl) .e) (by kernel_rfl) (by kernel_rfl) fun _ => by kernel_rfl
def qae_E (n : Nat) : Entry := ⟨(SN [0] hBC .nil), [SY [0] hAE .nil], fun d => qae n d.1 d.2.1 d.2.2.1 d.2.2.2.1 d.2.2.2.2⟩
def qae_ls (n : Nat) : List (Nat × LEntry) := [(0, ⟨[SN [3, 14, 15, 16] (u4 hO hI hA hA) hAN], [SX 0 [3] hAD hAN], qae_W0 n⟩)]
theorem qae_ok (n : Nat) : EOK Try.prog 42 (qae_E n) :=
 EOK.bS n zz Try.f42 { live := [(0, [3, 14, 15, 16])] } (qae_ls n) (.k (qk_ok n) (.k (qj_ok n) .e)) (.k (fun _ => rfl) (fun _ => by kernel_rfl) .e) (by kernel_rfl) (by kernel_rfl) fun _ => by kernel_rfl
def qt_E (n : Nat) : Entry := ⟨(SN [0] hBC .nil), [SY [0] hAE .nil], fun d => qt n d.1 d.2.1 d.2.2.1 d.2.2.2.1 d.2.2.2.2⟩
def qt_ls (n : Nat) : List (Nat × LEntry) := [(2, ⟨[SN [3, 16, 17, 18, 47, 48, 49] (u7 hO hJ hA hA hN hA hA) hAN], [SX 2 [3, 16, 17, 18] hAM hAN], qt_W2 n⟩), (0, ⟨[SN [3, 16, 17, 18] hAM hAN], [SX 0 [3] hAD hAN], qt_W0 n⟩)]
theorem qt_ok (n : Nat) : EOK Try.prog 43 (qt_E n) :=
 EOK.bS n zz Try.f43 { live := [(0, [3, 16, 17, 18]), (2, [3, 16, 17, 18, 47, 48, 49])], boxed := [(7, 8), (13, 7)] } (qt_ls n) (.k (qk_ok n) (.k (qb_ok n) (.k (qj_ok n) (.k (qcb_ok n) (.k (qcd_ok n) .e))))) (.k (fun _ => rfl) (fun _ => by kernel_rfl) (.k (fun _ => rfl) (fun _ => by kernel_rfl) .e)) (by kernel_rfl) (by kernel_rfl) fun _ => by kernel_rfl
def qab_E (n : Nat) : Entry := ⟨(SN [0] hBC .nil), [SY [0] hAE .nil], fun d => qab n d.1 d.2.1 d.2.2.1 d.2.2.2.1 d.2.2.2.2⟩
def qab_ls (n : Nat) : List (Nat × LEntry) := [(0, ⟨[SN [3, 14, 15, 16] (u4 hO hK hA hA) hAN], [SX 0 [3] hAD hAN], qab_W0 n⟩)]
theorem qab_ok (n : Nat) : EOK Try.prog 44 (qab_E n) :=
 EOK.bS n zz Try.f44 { live := [(0, [3, 14, 15, 16])], boxed := [(7, 8)] } (qab_ls n) (.k (qk_ok n) (.k (qj_ok n) (.k (qcb_ok n) .e))) (.k (fun _ => rfl) (fun _ => by kernel_rfl) .e) (by kernel_rfl) (by kernel_rfl) fun _ => by kernel_rfl
def qbw_E (n : Nat) : Entry := ⟨(SN [0, 1] (u2 hB hA) .nil), [SY [0] hAE .nil], fun d => qbw n d.1 d.2⟩
def qbw_ls (n : Nat) : List (Nat × LEntry) := [(0, ⟨[SN [0, 5, 9, 10] (u4 hB hD hA hA) hAF], [SX 0 [5] hW hAF], qbw_W0 n⟩)]
theorem qbw_ok (n : Nat) : EOK Try.prog 76 (qbw_E n) :=
 EOK.bS n zz Try.f76 { live := [(0, [0, 5, 9, 10])], boxed := [(1, 0), (5, 7)] } (qbw_ls n) .e (.k (fun _ => rfl) (fun _ => by kernel_rfl) .e) (by kernel_rfl) (by kernel_rfl) fun _ => by kernel_rfl
def qy_E (n : Nat) : Entry := ⟨(SN [0] hBC .nil), [SY [0] hAE .nil], fun d => qy n d.1 d.2.1 d.2.2.1 d.2.2.2.1 d.2.2.2.2⟩
def qy_ls (n : Nat) : List (Nat × LEntry) := [(0, ⟨[SN [3, 14, 15, 16] (u4 hO hU hA hA) hAN], [SX 0 [3] hAD hAN], qy_W0 n⟩)]
theorem qy_ok (n : Nat) : EOK Try.prog 45 (qy_E n) :=
 EOK.bS n zz Try.f45 { live := [(0, [3, 14, 15, 16])], boxed := [(6, 7)] } (qy_ls n) (.k (qk_ok n) (.k (qbw_ok n) .e)) (.k (fun _ => rfl) (fun _ => by kernel_rfl) .e) (by kernel_rfl) (by kernel_rfl) fun _ => by kernel_rfl
def qau_E (n : Nat) : Entry := ⟨(SN [0] hBC .nil), [SY [0] hAE .nil], fun d => qau n d.1 d.2.1 d.2.2.1 d.2.2.2.1 d.2.2.2.2⟩
def qau_ls (n : Nat) : List (Nat × LEntry) := [(0, ⟨[SN [3, 14, 15, 16] (u4 hO hL hA hA) hAN], [SX 0 [3] hAD hAN], qau_W0 n⟩)]
theorem qau_ok (n : Nat) : EOK Try.prog 46 (qau_E n) :=
 EOK.bS n zz Try.f46 { live := [(0, [3, 14, 15, 16])], boxed := [(7, 6)] } (qau_ls n) (.k (qk_ok n) (.k (qb_ok n) .e)) (.k (fun _ => rfl) (fun _ => by kernel_rfl) .e) (by kernel_rfl) (by kernel_rfl) fun _ => by kernel_rfl
def qca_E (n : Nat) : Entry := ⟨(SN [0] (u1 (.sl true false yI)) .nil), [SY [0] hAE .nil], fun d => qca n d⟩
def qca_ls (n : Nat) : List (Nat × LEntry) := [(0, ⟨[SN [3, 10, 11, 12] (u4 hD (.sl true false yI) hA hA) hAF], [SX 0 [3] hW hAF], qca_W0 n⟩)]
theorem qca_ok (n : Nat) : EOK Try.prog 41 (qca_E n) :=
 EOK.bS n zz Try.f41 { live := [(0, [3, 10, 11, 12])], boxed := [(5, 5), (6, 2)], raw := [(1, 3)] } (qca_ls n) (.k (qcf_ok n) .e) (.k (fun _ => rfl) (fun _ => by kernel_rfl) .e) (by kernel_rfl) (by kernel_rfl) fun _ => by kernel_rfl
def qag_E (n : Nat) : Entry := ⟨(SN [0] hBC .nil), [SY [0] (u1 (.tup (u2 hV hA))) .nil], fun d => qag n d.1 d.2.1 d.2.2.1 d.2.2.2.1 d.2.2.2.2⟩
theorem qag_ok (n : Nat) : EOK Try.prog 14 (qag_E n) :=
 EOK.bS n zz Try.f14 {} [] (.k (qaz_ok n) (.k (qae_ok n) (.k (qt_ok n) (.k (qab_ok n) (.k (qy_ok n) (.k (qau_ok n) (.k (qca_ok n) .e))))))) .e (by kernel_rfl) (by kernel_rfl) fun _ => by kernel_rfl
def qbq_E (n : Nat) : Entry := ⟨(SN [0, 1] (u2 hA hA) .nil), [SY [0] hC .nil], fun d => qbq n d.1 d.2⟩
theorem qbq_ok (n : Nat) : EOK Try.prog 50 (qbq_E n) :=
 EOK.bS n zz Try.f50 {} [] .e .e (by kernel_rfl) (by kernel_rfl) fun _ => by kernel_rfl
def qbh_E (n : Nat) : Entry := ⟨(SN [0, 1, 2] (u3 hBA hAV hAI) .nil), [SY [0] hC .nil], fun d => qbh n d.1.1 d.1.2.1 d.1.2.2.1 d.1.2.2.2.1 d.1.2.2.2.2 d.2.1.1 d.2.1.2.1 d.2.1.2.2.1 d.2.1.2.2.2.1 d.2.1.2.2.2.2 d.2.2.1 d.2.2.2.1 d.2.2.2.2⟩
theorem qbh_ok (n : Nat) : EOK Try.prog 17 (qbh_E n) :=
 EOK.bS n zz Try.f17 {} [] (.k (qbq_ok n) .e) .e (by kernel_rfl) (by kernel_rfl) fun _ => by kernel_rfl
def qay_E (n : Nat) : Entry := ⟨(SN [0, 1, 2] (u3 hAI hO hP) hBI), [SY [0] hC hBI], fun d => qay n d.1.1 d.1.2.1 d.1.2.2 d.2.1.1 d.2.1.2.1 d.2.1.2.2.1 d.2.1.2.2.2.1 d.2.1.2.2.2.2 d.2.2.1 d.2.2.2.1 d.2.2.2.2.1 d.2.2.2.2.2.1 d.2.2.2.2.2.2⟩
theorem qay_ok (n : Nat) : EOK Try.prog 16 (qay_E n) :=
 EOK.bS n zz Try.f16 {} [] (.k (qbh_ok n) .e) .e (by kernel_rfl) (by kernel_rfl) fun _ => by kernel_rfl
def qo_E (n : Nat) : Entry := ⟨(SN [0, 1] hAT hBI), [SY [0] hR hBI], fun d => qo n d.1 d.2.1.1 d.2.1.2.1 d.2.1.2.2.1 d.2.1.2.2.2.1 d.2.1.2.2.2.2 d.2.2.1 d.2.2.2.1 d.2.2.2.2.1 d.2.2.2.2.2.1 d.2.2.2.2.2.2⟩
def qo_ls (n : Nat) : List (Nat × LEntry) := [(0, ⟨[SN [0, 1, 7, 8] (u4 hN (.fn 16 .nil (u2 hO hP)) hA hA) hBI], [SY [4] hR hBI, SX 0 [] .nil hBI], qo_W0 n⟩)]
theorem qo_ok (n : Nat) : EOK Try.prog 51 (qo_E n) :=
 EOK.bS n zz Try.f51 { live := [(0, [0, 1, 7, 8])] } (qo_ls n) (.k (qay_ok n) .e) (.k (fun _ => rfl) (fun _ => by kernel_rfl) .e) (by kernel_rfl) (by kernel_rfl) fun _ => by kernel_rfl
def qc_E (n : Nat) : Entry := ⟨(SN [0, 1] hAT hBI), [SY [0] hC hBI], fun d => qc n d.1 d.2.1.1 d.2.1.2.1 d.2.1.2.2.1 d.2.1.2.2.2.1 d.2.1.2.2.2.2 d.2.2.1 d.2.2.2.1 d.2.2.2.2.1 d.2.2.2.2.2.1 d.2.2.2.2.2.2⟩
theorem qc_ok (n : Nat) : EOK Try.prog 18 (qc_E n) :=
 EOK.bS n zz Try.f18 {} [] (.k (qo_ok n) .e) .e (by kernel_rfl) (by kernel_rfl) fun _ => by kernel_rfl
def qbd_E (n : Nat) : Entry := ⟨(SN [0] (u1 hAG) .nil), [SY [0] hC .nil], fun d => qbd n d.1 d.2⟩
theorem qbd_ok (n : Nat) : EOK Try.prog 20 (qbd_E n) :=
 EOK.bS n zz Try.f20 {} [] .e .e (by kernel_rfl) (by kernel_rfl) fun _ => by kernel_rfl
def qu_E (n : Nat) : Entry := ⟨(SN [0, 1] (u2 hM (.fn 20 .nil .nil)) .nil), [SY [0] hR .nil], fun d => qu n d⟩
def qu_ls (n : Nat) : List (Nat × LEntry) := [(0, ⟨[SN [0, 1, 7, 8] (u4 hM (.fn 20 .nil .nil) hA hA) .nil], [SY [4] hR .nil, SX 0 [] .nil .nil], qu_W0 n⟩)]
theorem qu_ok (n : Nat) : EOK Try.prog 52 (qu_E n) :=
 EOK.bS n zz Try.f52 { live := [(0, [0, 1, 7, 8])] } (qu_ls n) (.k (qbd_ok n) .e) (.k (fun _ => rfl) (fun _ => by kernel_rfl) .e) (by kernel_rfl) (by kernel_rfl) fun _ => by kernel_rfl
def qe_E (n : Nat) : Entry := ⟨(SN [0, 1] (u2 hM (.fn 20 .nil .nil)) .nil), [SY [0] hC .nil], fun d => qe n d⟩
theorem qe_ok (n : Nat) : EOK Try.prog 19 (qe_E n) :=
 EOK.bS n zz Try.f19 {} [] (.k (qu_ok n) .e) .e (by kernel_rfl) (by kernel_rfl) fun _ => by kernel_rfl
def qby_E (n : Nat) : Entry := ⟨(SN [0] (u1 hAG) .nil), [SY [0] hC .nil], fun d => qby n d.1 d.2⟩
theorem qby_ok (n : Nat) : EOK Try.prog 22 (qby_E n) :=
 EOK.bS n zz Try.f22 {} [] .e .e (by kernel_rfl) (by kernel_rfl) fun _ => by kernel_rfl
def qai_E (n : Nat) : Entry := ⟨(SN [0] (u1 hAG) .nil), [SY [0] hC .nil], fun d => qai n d.1 d.2⟩
theorem qai_ok (n : Nat) : EOK Try.prog 23 (qai_E n) :=
 EOK.bS n zz Try.f23 {} [] (.k (qby_ok n) .e) .e (by kernel_rfl) (by kernel_rfl) fun _ => by kernel_rfl
def qr_E (n : Nat) : Entry := ⟨(SN [0, 1] (u2 hM (.fn 23 .nil .nil)) .nil), [SY [0] hR .nil], fun d => qr n d⟩
def qr_ls (n : Nat) : List (Nat × LEntry) := [(0, ⟨[SN [0, 1, 7, 8] (u4 hM (.fn 23 .nil .nil) hA hA) .nil], [SY [4] hR .nil, SX 0 [] .nil .nil], qr_W0 n⟩)]
theorem qr_ok (n : Nat) : EOK Try.prog 52 (qr_E n) :=
 EOK.bS n zz Try.f52 { live := [(0, [0, 1, 7, 8])] } (qr_ls n) (.k (qai_ok n) .e) (.k (fun _ => rfl) (fun _ => by kernel_rfl) .e) (by kernel_rfl) (by kernel_rfl) fun _ => by kernel_rfl
def qh_E (n : Nat) : Entry := ⟨(SN [0, 1] (u2 hM (.fn 23 .nil .nil)) .nil), [SY [0] hC .nil], fun d => qh n d⟩
theorem qh_ok (n : Nat) : EOK Try.prog 19 (qh_E n) :=
 EOK.bS n zz Try.f19 {} [] (.k (qr_ok n) .e) .e (by kernel_rfl) (by kernel_rfl) fun _ => by kernel_rfl
def qax_E (n : Nat) : Entry := ⟨(SN [0] (u1 (.agg (u3 hM hA hA))) .nil), [SY [0] hC .nil], fun d => qax n d.1 d.2.1 d.2.2⟩
theorem qax_ok (n : Nat) : EOK Try.prog 21 (qax_E n) :=
 EOK.bS n zz Try.f21 {} [] (.k (qby_ok n) (.k (qh_ok n) .e)) .e (by kernel_rfl) (by kernel_rfl) fun _ => by kernel_rfl
def qi_E (n : Nat) : Entry := ⟨(SN [0, 1] (u2 hK (.fn 21 .nil .nil)) .nil), [SY [0] hR .nil], fun d => qi n d⟩
def qi_ls (n : Nat) : List (Nat × LEntry) := [(0, ⟨[SN [0, 1, 7, 8] (u4 hK (.fn 21 .nil .nil) hA hA) .nil], [SY [4] hR .nil, SX 0 [] .nil .nil], qi_W0 n⟩)]
theorem qi_ok (n : Nat) : EOK Try.prog 53 (qi_E n) :=
 EOK.bS n zz Try.f53 { live := [(0, [0, 1, 7, 8])] } (qi_ls n) (.k (qax_ok n) .e) (.k (fun _ => rfl) (fun _ => by kernel_rfl) .e) (by kernel_rfl) (by kernel_rfl) fun _ => by kernel_rfl
def qa_E (n : Nat) : Entry := ⟨(SN [0, 1] (u2 hK (.fn 21 .nil .nil)) .nil), [SY [0] hC .nil], fun d => qa n d⟩
theorem qa_ok (n : Nat) : EOK Try.prog 24 (qa_E n) :=
 EOK.bS n zz Try.f24 {} [] (.k (qi_ok n) .e) .e (by kernel_rfl) (by kernel_rfl) fun _ => by kernel_rfl
def qbn_E (n : Nat) : Entry := ⟨(SN [0] hBC .nil), [SY [0] hR .nil], fun d => qbn n d.1 d.2.1 d.2.2.1 d.2.2.2.1 d.2.2.2.2⟩
def qbn_ls (n : Nat) : List (Nat × LEntry) := [(0, ⟨[SN [1, 18, 19, 20] hAM (u1 hBD)], [SY [2] hR hBI, SX 0 [1] hAD (u1 hBD)], qbn_W0 n⟩)]
theorem qbn_ok (n : Nat) : EOK Try.prog 6 (qbn_E n) :=
 EOK.bS n zz Try.f6 { live := [(0, [1, 18, 19, 20])] } (qbn_ls n) (.k (qag_ok n) (.k (qc_ok n) (.k (qe_ok n) (.k (qa_ok n) .e)))) (.k (fun _ => rfl) (fun _ => by kernel_rfl) .e) (by kernel_rfl) (by kernel_rfl) fun _ => by kernel_rfl
def qbz_E (n : Nat) : Entry := ⟨(SN [0] hBC .nil), [SY [0] hC .nil], fun d => qbz n d.1 d.2.1 d.2.2.1 d.2.2.2.1 d.2.2.2.2⟩
theorem qbz_ok (n : Nat) : EOK Try.prog 54 (qbz_E n) :=
 EOK.bS n zz Try.f54 {} [] (.k (qbn_ok n) .e) .e (by kernel_rfl) (by kernel_rfl) fun _ => by kernel_rfl
def qbb_E (n : Nat) : Entry := ⟨(SN [0, 1] (u2 hBA hA) .nil), [SY [0] (u1 (.tup (u2 (.agg (u7 (.sl false true yA) .nilS .nilS hA hA hA hB)) hA))) .nil], fun d => qbb n d.1.1 d.1.2.1 d.1.2.2.1 d.1.2.2.2.1 d.1.2.2.2.2 d.2⟩
theorem qbb_ok (n : Nat) : EOK Try.prog 25 (qbb_E n) :=
 EOK.bS n zz Try.f25 {} [] (.k (qbz_ok n) .e) .e (by kernel_rfl) (by kernel_rfl) fun _ => by kernel_rfl
def qaq_E (n : Nat) : Entry := ⟨(SN [0] (u1 hU) .nil), [SY [0] hW (u1 hAB)], fun d => qaq n d⟩
theorem qaq_ok (n : Nat) : EOK Try.prog 56 (qaq_E n) :=
 EOK.b n zz Try.f56 { boxed := [(0, 0), (2, 0), (3, 0), (3, 2)] } [] .e .e (by kernel_rfl) (by kernel_rfl) fun _ => by kernel_rfl
def qav_E (n : Nat) : Entry := ⟨(SN [0] hW (u1 hAB)), [SY [0] hX (u1 hAB)], fun d => qav n d⟩
theorem qav_ok (n : Nat) : EOK Try.prog 55 (qav_E n) :=
 EOK.b n zz Try.f55 { boxed := [(0, 0)] } [] .e .e (by kernel_rfl) (by kernel_rfl) fun _ => by kernel_rfl
def qaj_E (n : Nat) : Entry := ⟨(SN [0] (u1 hF) .nil), [SY [0] hW (u1 hAP)], fun d => qaj n d⟩
def qaj_ls (n : Nat) : List (Nat × LEntry) := [(0, ⟨[SN [3, 6, 7, 8] (u4 hD hF hA hA) (u1 hAP)], [SX 0 [3] hW (u1 hAP)], qaj_W0 n⟩)]
theorem qaj_ok (n : Nat) : EOK Try.prog 27 (qaj_E n) :=
 EOK.b n zz Try.f27 { live := [(0, [3, 6, 7, 8])], boxed := [(6, 2)], raw := [(5, 2), (5, 3), (5, 6), (5, 7)], vars := [(5, 3), (5, 7), (6, 2)], own := [(0, 0), (1, 0), (6, 3)] } (qaj_ls n) (.k (qaq_ok n) (.k (qav_ok n) .e)) (.k (fun _ => rfl) (fun _ => by kernel_rfl) .e) (by kernel_rfl) (by kernel_rfl) fun _ => by kernel_rfl
def qbp_E (n : Nat) : Entry := ⟨(SN [0] hW (u1 hAP)), [SY [0] hX (u1 hAP)], fun d => qbp n d⟩
theorem qbp_ok (n : Nat) : EOK Try.prog 26 (qbp_E n) :=
 EOK.b n zz Try.f26 { boxed := [(0, 0)] } [] .e .e (by kernel_rfl) (by kernel_rfl) fun _ => by kernel_rfl
def qbo_E (n : Nat) : Entry := ⟨(SN [0] (u1 hY) .nil), [SY [0] hW hAF], fun d => qbo n d⟩
theorem qbo_ok (n : Nat) : EOK Try.prog 105 (qbo_E n) :=
 EOK.b n zz Try.f105 { boxed := [(0, 0), (2, 0), (3, 0), (3, 2)] } [] .e .e (by kernel_rfl) (by kernel_rfl) fun _ => by kernel_rfl
def qbt_E (n : Nat) : Entry := ⟨(SN [0] hW hAF), [SY [0] hX hAF], fun d => qbt n d⟩
theorem qbt_ok (n : Nat) : EOK Try.prog 104 (qbt_E n) :=
 EOK.b n zz Try.f104 { boxed := [(0, 0)] } [] .e .e (by kernel_rfl) (by kernel_rfl) fun _ => by kernel_rfl
def qbf_E (n : Nat) : Entry := ⟨(SN [0] (u1 hAU) .nil), [SY [0] (u1 (.agg (u4 hA hA (.ms 0 0) (.ms 1 0)))) (u2 hAB hAC)], fun d => qbf n d.1 d.2.1 d.2.2.1 d.2.2.2⟩
theorem qbf_ok (n : Nat) : EOK Try.prog 57 (qbf_E n) :=
 EOK.b n zz Try.f57 { raw := [(1, 2), (1, 3), (1, 6), (1, 7)], vars := [(1, 3), (1, 7)] } [] (.k (qaq_ok n) (.k (qav_ok n) (.k (qbo_ok n) (.k (qbt_ok n) .e)))) .e (by kernel_rfl) (by kernel_rfl) fun _ => by kernel_rfl
def qbv_E (n : Nat) : Entry := ⟨(SN [0] (u1 hG) .nil), [SY [0] hW (u1 hAQ)], fun d => qbv n d⟩
def qbv_ls (n : Nat) : List (Nat × LEntry) := [(0, ⟨[SN [3, 6, 7, 8] (u4 hD hG hA hA) (u1 hAQ)], [SX 0 [3] hW (u1 hAQ)], qbv_W0 n⟩)]
theorem qbv_ok (n : Nat) : EOK Try.prog 29 (qbv_E n) :=
 EOK.b n zz Try.f29 { live := [(0, [3, 6, 7, 8])], boxed := [(5, 3)], raw := [(5, 2)], vars := [(5, 3)], own := [(0, 0), (1, 0), (5, 4)] } (qbv_ls n) (.k (qbf_ok n) .e) (.k (fun _ => rfl) (fun _ => by kernel_rfl) .e) (by kernel_rfl) (by kernel_rfl) fun _ => by kernel_rfl
def qce_E (n : Nat) : Entry := ⟨(SN [0] hW (u1 hAQ)), [SY [0] hX (u1 hAQ)], fun d => qce n d⟩
theorem qce_ok (n : Nat) : EOK Try.prog 28 (qce_E n) :=
 EOK.b n zz Try.f28 { boxed := [(0, 0)] } [] .e .e (by kernel_rfl) (by kernel_rfl) fun _ => by kernel_rfl
def qas_E (n : Nat) : Entry := ⟨(SN [0] (u1 hH) .nil), [SY [0] hW (u1 hT)], fun d => qas n d⟩
theorem qas_ok (n : Nat) : EOK Try.prog 31 (qas_E n) :=
 EOK.b n zz Try.f31 { boxed := [(0, 0), (2, 0), (3, 0), (3, 2)] } [] .e .e (by kernel_rfl) (by kernel_rfl) fun _ => by kernel_rfl
def qbg_E (n : Nat) : Entry := ⟨(SN [0] hW (u1 hT)), [SY [0] hX (u1 hT)], fun d => qbg n d⟩
theorem qbg_ok (n : Nat) : EOK Try.prog 30 (qbg_E n) :=
 EOK.b n zz Try.f30 { boxed := [(0, 0)] } [] .e .e (by kernel_rfl) (by kernel_rfl) fun _ => by kernel_rfl
def qbe_E (n : Nat) : Entry := ⟨(SN [0] (u1 hBE) .nil), [SY [0] (u1 (.agg (u7 (.ms 0 0) (.ms 1 0) (.ms 2 0) hA hA hA hB))) (u3 hAP hAQ hT)], fun d => qbe n d.1 d.2.1 d.2.2.1 d.2.2.2.1 d.2.2.2.2.1 d.2.2.2.2.2.1 d.2.2.2.2.2.2⟩
theorem qbe_ok (n : Nat) : EOK Try.prog 11 (qbe_E n) :=
 EOK.b n zz Try.f11 { raw := [(1, 2), (1, 3), (1, 6), (1, 7), (1, 10), (1, 11)], vars := [(1, 3), (1, 7), (1, 11)] } [] (.k (qaj_ok n) (.k (qbp_ok n) (.k (qbv_ok n) (.k (qce_ok n) (.k (qas_ok n) (.k (qbg_ok n) .e)))))) .e (by kernel_rfl) (by kernel_rfl) fun _ => by kernel_rfl
def qap_E (n : Nat) : Entry := ⟨(SN [0, 1] (u2 hU hU) .nil), [SY [0] hC .nil], fun d => qap n d.1 d.2⟩
def qap_ls (n : Nat) : List (Nat × LEntry) := [(0, ⟨[SN [0, 1, 12, 13] (u4 hU hU hA hA) .nil], [SY [4] hC .nil, SX 0 [] .nil .nil], qap_W0 n⟩)]
theorem qap_ok (n : Nat) : EOK Try.prog 58 (qap_E n) :=
 EOK.bS n zz Try.f58 { live := [(0, [0, 1, 12, 13])] } (qap_ls n) .e (.k (fun _ => rfl) (fun _ => by kernel_rfl) .e) (by kernel_rfl) (by kernel_rfl) fun _ => by kernel_rfl
def qz_E (n : Nat) : Entry := ⟨(SN [0, 1] (u2 (.agg (u4 hA hA hU hU)) (.agg (u4 hA hA hU hU))) .nil), [SY [0] hC .nil], fun d => qz n d.1.1 d.1.2.1 d.1.2.2.1 d.1.2.2.2 d.2.1 d.2.2.1 d.2.2.2.1 d.2.2.2.2⟩
theorem qz_ok (n : Nat) : EOK Try.prog 33 (qz_E n) :=
 EOK.bS n zz Try.f33 {} [] (.k (qap_ok n) .e) .e (by kernel_rfl) (by kernel_rfl) fun _ => by kernel_rfl
def qv_E (n : Nat) : Entry := ⟨(SN [0, 1, 2] (u3 hF hF (.fn 33 .nil .nil)) .nil), [SY [0] hC .nil], fun d => qv n d.1 d.2⟩
def qv_ls (n : Nat) : List (Nat × LEntry) := [(0, ⟨[SN [1, 2, 15, 16, 17] (u5 hF (.fn 33 .nil .nil) hF hA hA) .nil], [SY [6] hC (u2 hAW hAW), SX 0 [] .nil .nil], qv_W0 n⟩)]
theorem qv_ok (n : Nat) : EOK Try.prog 32 (qv_E n) :=
 EOK.bS n zz Try.f32 { live := [(0, [1, 2, 15, 16, 17])] } (qv_ls n) (.k (qz_ok n) .e) (.k (fun _ => rfl) (fun _ => by kernel_rfl) .e) (by kernel_rfl) (by kernel_rfl) fun _ => by kernel_rfl
def qbl_E (n : Nat) : Entry := ⟨(SN [0, 1] (u2 hY hY) .nil), [SY [0] hC .nil], fun d => qbl n d.1 d.2⟩
def qbl_ls (n : Nat) : List (Nat × LEntry) := [(0, ⟨[SN [0, 1, 12, 13] (u4 hY hY hA hA) .nil], [SY [4] hC .nil, SX 0 [] .nil .nil], qbl_W0 n⟩)]
theorem qbl_ok (n : Nat) : EOK Try.prog 59 (qbl_E n) :=
 EOK.bS n zz Try.f59 { live := [(0, [0, 1, 12, 13])] } (qbl_ls n) .e (.k (fun _ => rfl) (fun _ => by kernel_rfl) .e) (by kernel_rfl) (by kernel_rfl) fun _ => by kernel_rfl
def qbi_E (n : Nat) : Entry := ⟨(SN [0, 1] (u2 hAU hAU) .nil), [SY [0] hC .nil], fun d => qbi n d.1.1 d.1.2.1 d.1.2.2.1 d.1.2.2.2 d.2.1 d.2.2.1 d.2.2.2.1 d.2.2.2.2⟩
theorem qbi_ok (n : Nat) : EOK Try.prog 35 (qbi_E n) :=
 EOK.bS n zz Try.f35 {} [] (.k (qap_ok n) (.k (qbl_ok n) .e)) .e (by kernel_rfl) (by kernel_rfl) fun _ => by kernel_rfl
def qaf_E (n : Nat) : Entry := ⟨(SN [0, 1, 2] (u3 hG hG (.fn 35 .nil .nil)) .nil), [SY [0] hC .nil], fun d => qaf n d.1 d.2⟩
def qaf_ls (n : Nat) : List (Nat × LEntry) := [(0, ⟨[SN [1, 2, 15, 16, 17] (u5 hG (.fn 35 .nil .nil) hG hA hA) .nil], [SY [6] hC (u2 hAX hAX), SX 0 [] .nil .nil], qaf_W0 n⟩)]
theorem qaf_ok (n : Nat) : EOK Try.prog 34 (qaf_E n) :=
 EOK.bS n zz Try.f34 { live := [(0, [1, 2, 15, 16, 17])] } (qaf_ls n) (.k (qbi_ok n) .e) (.k (fun _ => rfl) (fun _ => by kernel_rfl) .e) (by kernel_rfl) (by kernel_rfl) fun _ => by kernel_rfl
def qak_E (n : Nat) : Entry := ⟨(SN [0, 1] (u2 hH hH) .nil), [SY [0] hC .nil], fun d => qak n d.1 d.2⟩
def qak_ls (n : Nat) : List (Nat × LEntry) := [(0, ⟨[SN [0, 1, 12, 13] (u4 hH hH hA hA) .nil], [SY [4] hC .nil, SX 0 [] .nil .nil], qak_W0 n⟩)]
theorem qak_ok (n : Nat) : EOK Try.prog 36 (qak_E n) :=
 EOK.bS n zz Try.f36 { live := [(0, [0, 1, 12, 13])] } (qak_ls n) .e (.k (fun _ => rfl) (fun _ => by kernel_rfl) .e) (by kernel_rfl) (by kernel_rfl) fun _ => by kernel_rfl
def qbs_E (n : Nat) : Entry := ⟨(SN [0, 1] (u2 hBE hBE) .nil), [SY [0] hC .nil], fun d => qbs n d.1.1 d.1.2.1 d.1.2.2.1 d.1.2.2.2.1 d.1.2.2.2.2.1 d.1.2.2.2.2.2.1 d.1.2.2.2.2.2.2 d.2.1 d.2.2.1 d.2.2.2.1 d.2.2.2.2.1 d.2.2.2.2.2.1 d.2.2.2.2.2.2.1 d.2.2.2.2.2.2.2⟩
theorem qbs_ok (n : Nat) : EOK Try.prog 12 (qbs_E n) :=
 EOK.bS n zz Try.f12 {} [] (.k (qv_ok n) (.k (qaf_ok n) (.k (qak_ok n) .e))) .e (by kernel_rfl) (by kernel_rfl) fun _ => by kernel_rfl
def qah_E (n : Nat) : Entry := ⟨(SN [] .nil .nil), [SY [0] hC .nil], fun d => qah n⟩
theorem qah_ok (n : Nat) : EOK Try.prog 9 (qah_E n) :=
 EOK.bS n zz Try.f9 {} [] (.k (qbb_ok n) (.k (qbe_ok n) (.k (qbs_ok n) .e))) .e (by kernel_rfl) (by kernel_rfl) fun _ => by kernel_rfl
def qbr_E (n : Nat) : Entry := ⟨(SN [0] (u1 hBE) .nil), [SY [0] (u1 (.agg hBB)) .nil], fun d => qbr n d.1 d.2.1 d.2.2.1 d.2.2.2.1 d.2.2.2.2.1 d.2.2.2.2.2.1 d.2.2.2.2.2.2⟩
def qbr_ls (n : Nat) : List (Nat × LEntry) := [(0, ⟨[SN [1, 2, 3, 4] hAR hBJ, SN [1, 2, 3, 4] hAR hBK], [SX 0 [1, 2, 3] hAL hBJ, SX 0 [1, 2, 3] hAL hBK], qbr_W0 n⟩), (2, ⟨[SN [1, 2, 3, 6] hAR hBJ, SN [1, 2, 3, 6] hAR hBL, SN [1, 2, 3, 6] hAR hBK, SN [1, 2, 3, 6] hAR hBM], [SX 2 [2, 3] (u2 hP hQ) hBJ, SX 2 [2, 3] (u2 hP hQ) hBL, SX 2 [2, 3] (u2 hP hQ) hBK, SX 2 [2, 3] (u2 hP hQ) hBM], qbr_W2x1 n⟩)]
theorem qbr_ok (n : Nat) : EOK Try.prog 10 (qbr_E n) :=
 EOK.bS n zz Try.f10 { live := [(0, [1, 2, 3, 4]), (2, [1, 2, 3, 6])], boxed := [(2, 0), (2, 3), (7, 6), (7, 10), (7, 15), (7, 16), (12, 6), (12, 10), (12, 15), (12, 16)] } (qbr_ls n) .e (.k (fun _ => rfl) (fun s => by rcases s with s | s <;> kernel_rfl) (.k (fun _ => rfl) (fun s => by rcases s with s | s | s | s <;> kernel_rfl) .e)) (by kernel_rfl) (by kernel_rfl) fun _ => by kernel_rfl
def qaw_E (n : Nat) : Entry := ⟨(SN [0, 1] (u2 hU hU) .nil), [SY [0] hC .nil], fun d => qaw n d.1 d.2⟩
def qaw_ls (n : Nat) : List (Nat × LEntry) := [(0, ⟨[SN [0, 1, 5] (u3 hU hU hA) .nil], [SY [4] hC .nil, SX 0 [] .nil .nil], qaw_W0 n⟩)]
theorem qaw_ok (n : Nat) : EOK Try.prog 37 (qaw_E n) :=
 EOK.bS n zz Try.f37 { live := [(0, [0, 1, 5])] } (qaw_ls n) .e (.k (fun _ => rfl) (fun _ => by kernel_rfl) .e) (by kernel_rfl) (by kernel_rfl) fun _ => by kernel_rfl
def qbk_E (n : Nat) : Entry := ⟨(SN [0, 1] (u2 hY hY) .nil), [SY [0] hC .nil], fun d => qbk n d.1 d.2⟩
def qbk_ls (n : Nat) : List (Nat × LEntry) := [(0, ⟨[SN [0, 1, 5] (u3 hY hY hA) .nil], [SY [4] hC .nil, SX 0 [] .nil .nil], qbk_W0 n⟩)]
theorem qbk_ok (n : Nat) : EOK Try.prog 60 (qbk_E n) :=
 EOK.bS n zz Try.f60 { live := [(0, [0, 1, 5])] } (qbk_ls n) .e (.k (fun _ => rfl) (fun _ => by kernel_rfl) .e) (by kernel_rfl) (by kernel_rfl) fun _ => by kernel_rfl
def qbm_E (n : Nat) : Entry := ⟨(SN [0, 1] (u2 hG hG) .nil), [SY [0] hC .nil], fun d => qbm n d.1 d.2⟩
def qbm_ls (n : Nat) : List (Nat × LEntry) := [(0, ⟨[SN [0, 1, 5] (u3 hG hG hA) .nil], [SY [4] hC .nil, SX 0 [] .nil .nil], qbm_W0 n⟩)]
theorem qbm_ok (n : Nat) : EOK Try.prog 38 (qbm_E n) :=
 EOK.bS n zz Try.f38 { live := [(0, [0, 1, 5])] } (qbm_ls n) (.k (qaw_ok n) (.k (qbk_ok n) .e)) (.k (fun _ => rfl) (fun _ => by kernel_rfl) .e) (by kernel_rfl) (by kernel_rfl) fun _ => by kernel_rfl
def qbj_E (n : Nat) : Entry := ⟨(SN [0, 1] (u2 hH hH) .nil), [SY [0] hC .nil], fun d => qbj n d.1 d.2⟩
def qbj_ls (n : Nat) : List (Nat × LEntry) := [(0, ⟨[SN [0, 1, 5] (u3 hH hH hA) .nil], [SY [4] hC .nil, SX 0 [] .nil .nil], qbj_W0 n⟩)]
theorem qbj_ok (n : Nat) : EOK Try.prog 39 (qbj_E n) :=
 EOK.bS n zz Try.f39 { live := [(0, [0, 1, 5])] } (qbj_ls n) .e (.k (fun _ => rfl) (fun _ => by kernel_rfl) .e) (by kernel_rfl) (by kernel_rfl) fun _ => by kernel_rfl
def qam_E (n : Nat) : Entry := ⟨(SN [0, 1] (u2 hBE hBE) .nil), [SY [0] hC .nil], fun d => qam n d.1.1 d.1.2.1 d.1.2.2.1 d.1.2.2.2.1 d.1.2.2.2.2.1 d.1.2.2.2.2.2.1 d.1.2.2.2.2.2.2 d.2.1 d.2.2.1 d.2.2.2.1 d.2.2.2.2.1 d.2.2.2.2.2.1 d.2.2.2.2.2.2.1 d.2.2.2.2.2.2.2⟩
def qam_ls (n : Nat) : List (Nat × LEntry) := [(0, ⟨[SN [2, 3, 5] (u3 hO hP hA) (u2 hBG hBG)], [SY [4] hC (u4 hBG hBG hAW hAW), SX 0 [2, 3] (u2 hO hP) (u2 hBG hBG)], qam_W0 n⟩)]
theorem qam_ok (n : Nat) : EOK Try.prog 13 (qam_E n) :=
 EOK.bS n zz Try.f13 { live := [(0, [2, 3, 5])] } (qam_ls n) (.k (qaw_ok n) (.k (qbm_ok n) (.k (qbj_ok n) .e))) (.k (fun _ => rfl) (fun _ => by kernel_rfl) .e) (by kernel_rfl) (by kernel_rfl) fun _ => by kernel_rfl
def law14StateCopies_E (n : Nat) : Entry := ⟨(SN [0, 1] (u2 hBE hBE) .nil), [SY [0] hC .nil], fun d => law14StateCopies n d.1.1 d.1.2.1 d.1.2.2.1 d.1.2.2.2.1 d.1.2.2.2.2.1 d.1.2.2.2.2.2.1 d.1.2.2.2.2.2.2 d.2.1 d.2.2.1 d.2.2.2.1 d.2.2.2.2.1 d.2.2.2.2.2.1 d.2.2.2.2.2.2.1 d.2.2.2.2.2.2.2⟩
def law14StateCopies_ls (n : Nat) : List (Nat × LEntry) := [(2, ⟨[SN [2, 5, 6, 7, 8] hAY hBN], [SX 2 [2, 5, 6, 7] hAR (u7 hBG hBH hBF (.bos 0 false (.cons (.int .i64) (.cons (.int .i64) (.cons (.sl false (.int .u64)) (.sl false (.int .u64))))) hAJ) hAQ hT hAB)], law14StateCopies_W2 n⟩), (4, ⟨[SN [2, 5, 6, 7, 9] hAY hBN], [SX 4 [2, 5, 6, 7] hAR (u7 hBG hBH hBF (.bos 0 false (.cons (.int .i64) (.cons (.int .i64) (.cons (.sl false (.int .u64)) (.sl false (.int .u64))))) hAK) hAQ hT hAB)], law14StateCopies_W4 n⟩), (0, ⟨[SN [2, 5, 6, 7] hAR hBN], [SX 0 [2, 5, 6] hAL hBN], law14StateCopies_W0 n⟩), (8, ⟨[SN [2, 5, 6, 10, 11] hAY hBN], [SX 8 [2, 5, 6, 10] hAR (u7 hBG hBH hBF hAP (.bos 0 false (.cons (.int .i64) (.cons (.int .i64) (.cons (.sl false (.int .u64)) (.sl false (.int .u8))))) hAJ) hT hAB)], law14StateCopies_W8 n⟩), (10, ⟨[SN [2, 5, 6, 10, 12] hAY hBN], [SX 10 [2, 5, 6, 10] hAR (u7 hBG hBH hBF hAP (.bos 0 false (.cons (.int .i64) (.cons (.int .i64) (.cons (.sl false (.int .u64)) (.sl false (.int .u8))))) hAK) hT hAC)], law14StateCopies_W10 n⟩), (6, ⟨[SN [2, 5, 6, 10] hAR hBN], [SX 6 [2, 5, 6] hAL hBN], law14StateCopies_W6 n⟩), (12, ⟨[SN [2, 5, 6, 13] hAR hBN], [SX 12 [2, 5] (u2 hO hP) hBN], law14StateCopies_W12 n⟩)]
theorem zeo (n : Nat) : EOK Try.prog 4 (law14StateCopies_E n) :=
 EOK.bS n zz Try.f4 { live := [(0, [2, 5, 6, 7]), (2, [2, 5, 6, 7, 8]), (4, [2, 5, 6, 7, 9]), (6, [2, 5, 6, 10]), (8, [2, 5, 6, 10, 11]), (10, [2, 5, 6, 10, 12]), (12, [2, 5, 6, 13])], raw := [(4, 1)] } (law14StateCopies_ls n) (.k (qba_ok n) (.k (qah_ok n) (.k (qbr_ok n) (.k (qbe_ok n) (.k (qbs_ok n) (.k (qam_ok n) .e)))))) (.k (fun _ => rfl) (fun _ => by kernel_rfl) (.k (fun _ => rfl) (fun _ => by kernel_rfl) (.k (fun _ => rfl) (fun _ => by kernel_rfl) (.k (fun _ => rfl) (fun _ => by kernel_rfl) (.k (fun _ => rfl) (fun _ => by kernel_rfl) (.k (fun _ => rfl) (fun _ => by kernel_rfl) (.k (fun _ => rfl) (fun _ => by kernel_rfl) .e))))))) (by kernel_rfl) (by kernel_rfl) fun _ => by kernel_rfl
end
end Sx
