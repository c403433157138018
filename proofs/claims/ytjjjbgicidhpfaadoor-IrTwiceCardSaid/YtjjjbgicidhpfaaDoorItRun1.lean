import Derived.Test.YtjjjbgicidhpfaaDoorProg
import Derived.Test.YtjjjbgicidhpfaaDoorLib36
import Derived.Test.YtjjjbgicidhpfaaDoorItSh
open Go Go.Ab Go.Proofs
set_option linter.unusedVariables false
set_option maxRecDepth 20000
namespace Sx
noncomputable section
abbrev yA:Ty:=(.sl true (.cons (.int .i64) (.int .i64)))
abbrev yB:Ty:=(.cons (.sl true (.cons (.int .i64) (.int .i64))) (.cons (.int .i64) (.cons (.int .i64) (.cons (.sl true (.cons (.int .i64) (.int .i64))) (.sl true (.cons (.int .i64) (.cons (.int .i64) (.int .i64))))))))
abbrev yC:Ty:=(.cons (.sl true (.cons (.int .i64) (.int .i64))) (.cons (.int .i64) (.int .i64)))
abbrev yD:Ty:=(.cons (.int .i64) (.int .i64))
abbrev yE:Ty:=(.cons (.int .i64) (.cons (.int .i64) (.int .i64)))
abbrev yF:Ty:=(.sl false (.int .u8))
abbrev yG:Ty:=(.sl true (.cons .bool (.sl true (.cons (.int .i64) (.int .i64)))))
abbrev yH:Ty:=(.cons (.int .i64) (.cons (.int .i64) (.cons (.int .i64) (.cons (.int .i64) (.cons (.int .i64) (.int .i64))))))
def Pw:List (String×Nat×Int×Int):= [("chrysalis/flow.number",1,1,0),("chrysalis/flow.octets",3,2,0),("chrysalis/flow.words",2,3,0),("chrysalis/flow.refs",4,7,0),("chrysalis/flow.use",0,8,0)]
def UW:DH:= [(1,1,0),(3,2,0),(2,3,0),(4,7,0),(0,8,0)]
instance gTab:cF:=⟨λg=>dB g UW⟩
abbrev xA:Ty:= .int .i64
abbrev xB:Ty:= .sl false (.int .u64)
abbrev xC:Ty:= .sl false (.int .u8)
abbrev xD:Ty:= .sl true (.cons xA xA)
abbrev xE:Ty:= .cons xA (.cons xA xA)
abbrev xF:Ty:= .sl true (.cons .bool xD)
abbrev xG:Ty:= .sl true (.cons xD (.cons xA xA))
abbrev xH:Ty:= .cons xA (.cons xA (.cons xA xE))
abbrev xI:Ty:= .cons xD (.cons xA (.cons xA (.cons xD (.sl true xE))))
abbrev zi:Value:= .int .i64 0
abbrev zl:Value:= .slice none 0 0
abbrev zu:Value:= .int .u64 0
abbrev zp:Value:= .pointer none
abbrev zt:Value:= .string (ByteArray.mk (List.toArray []))
def tA:TI:=⟨.int .i64,1,8,false,some xA,false,[zi]⟩
def tB:TI:=⟨.bool,1,1,false,some .bool,false,[.bool false]⟩
def tC:TI:=⟨.int .u8,1,1,false,some (.int .u8),false,[.int .u8 0]⟩
def tD:TI:=⟨.st [(0,1,2),(1,1,3),(2,1,4),(3,1,6)],4,24,true,some (.cons xA (.cons xA (.cons .bool (.int .u8)))),true,[zi,zi,.bool false,.int .u8 0]⟩
def tE:TI:=⟨.str,1,16,false,some .str,false,[zt]⟩
def tF:TI:=⟨.int .u64,1,8,false,some (.int .u64),false,[zu]⟩
def tG:TI:=⟨.st [(0,1,9),(1,1,12)],2,24,true,some (.cons .str (.int .u64)),false,[zt,zu]⟩
def tH:TI:=⟨.ptr,1,8,false,none,false,[zp]⟩
def tI:TI:=⟨.st [(0,1,17)],1,8,true,none,false,[zp]⟩
def tJ:TI:=⟨.int .i32,1,4,false,some (.int .i32),false,[.int .i32 0]⟩
def tK:TI:=⟨.sl 29,1,24,false,some (.sl false xD),false,[zl]⟩
def tL:TI:=⟨.sl 53,1,24,false,some (.sl true xI),false,[zl]⟩
def tM:TI:=⟨.sl 70,1,24,false,some xG,false,[zl]⟩
def tN:TI:=⟨.sl 57,1,24,false,some xB,false,[zl]⟩
def tO:TI:=⟨.sl 9,1,24,false,some (.sl false .str),false,[zl]⟩
def tP:TI:=⟨.st [(0,1,22),(1,1,23),(2,1,24),(3,1,25),(4,1,26)],5,120,true,some (.cons (.sl false xD) (.cons (.sl true xI) (.cons xG (.cons xB (.sl false .str))))),false,[zl,zl,zl,zl,zl]⟩
def tQ:TI:=⟨.sl 37,1,24,false,some xD,false,[zl]⟩
def tR:TI:=⟨.sl 3,1,24,false,some (.sl false xA),false,[zl]⟩
def tS:TI:=⟨.st [(0,1,3),(1,1,3)],2,16,true,some (.cons xA xA),true,[zi,zi]⟩
def tT:TI:=⟨.sl 43,1,24,false,some (.sl false xF),false,[zl]⟩
def tU:TI:=⟨.sl 45,1,24,false,some xF,false,[zl]⟩
def tV:TI:=⟨.st [(0,1,4),(1,1,29)],2,32,true,some (.cons .bool xD),false,[.bool false,zl]⟩
def tW:TI:=⟨.sl 56,1,24,false,some (.sl true xE),false,[zl]⟩
def tX:TI:=⟨.st [(0,1,29),(1,2,37),(3,1,29),(4,1,51)],5,88,true,some xI,false,[zl,zi,zi,zl,zl]⟩
def tY:TI:=⟨.st [(0,1,3),(1,1,3),(2,1,3)],3,24,true,some xE,true,[zi,zi,zi]⟩
def tZ:TI:=⟨.sl 63,1,24,false,some (.sl false (.sl true xH)),false,[zl]⟩
def VN:TI:=⟨.sl 65,1,24,false,some (.sl true xH),false,[zl]⟩
def VD:TI:=⟨.st [(0,1,3),(1,1,3),(2,1,3),(3,1,3),(4,1,3),(5,1,3)],6,48,true,some xH,true,[zi,zi,zi,zi,zi,zi]⟩
def Vu:TI:=⟨.st [(0,1,29),(1,2,37)],3,40,true,some (.cons xD (.cons xA xA)),false,[zl,zi,zi]⟩
def VB:TI:=⟨.st [(0,5,28),(5,1,3),(6,1,43),(7,1,32)],8,176,true,some (.cons (.sl false xD) (.cons (.sl true xI) (.cons xG (.cons xB (.cons (.sl false .str) (.cons xA (.cons xF (.sl false xA)))))))),false,[zl,zl,zl,zl,zl,zi,zl,zl]⟩
def VV:TI:=⟨.sl 5,1,24,false,some xC,false,[zl]⟩
def Vx:TI:=⟨.st [(0,1,29),(1,1,29)],2,48,true,some (.cons xD xD),false,[zl,zl]⟩
def VU:TI:=⟨.sl 78,1,24,false,some (.sl false xC),false,[zl]⟩
def VK:TI:=⟨.st [(0,1,78)],1,24,true,some xC,false,[zl]⟩
def VM:TI:=⟨.arr 2 3,2,16,true,none,false,[zi,zi]⟩
def Vw:TI:=⟨.st [(0,1,17),(1,1,17),(2,1,17),(3,1,9)],4,40,true,none,false,[zp,zp,zp,zt]⟩
def VS:TI:=⟨.arr 0 16,0,0,true,none,false,[]⟩
def VA:TI:=⟨.st [(0,0,149)],0,0,true,none,false,[]⟩
def VT:TI:=⟨.int .u32,1,4,false,some (.int .u32),false,[.int .u32 0]⟩
def VQ:TI:=⟨.other,1,8,false,none,false,[zp]⟩
def UY:List (Nat×TI):= [(2,tA),(3,tA),(4,tB),(5,tC),(6,tC),(7,tD),(8,tD),(9,tE),(10,tE),(11,tE),(12,tF),(13,tG),(14,tG),(15,tH),(16,tH),(17,tH),(18,tI),(19,tI),(21,tJ),(22,tK),(23,tL),(24,tM),(25,tN),(26,tO),(27,tP),(28,tP),(29,tQ),(32,tR),(33,tA),(36,tS),(37,tS),(40,tT),(43,tU),(44,tV),(45,tV),(51,tW),(52,tX),(53,tX),(55,tY),(56,tY),(57,tF),(60,tZ),(63,VN),(64,VD),(65,VD),(69,Vu),(70,Vu),(71,tH),(73,tH),(74,VB),(75,VB),(78,VV),(94,Vx),(95,Vx),(111,VU),(134,tH),(135,VK),(136,VK),(143,tF),(145,VM),(147,Vw),(148,Vw),(149,VS),(150,VA),(151,VA),(153,VT),(154,tC),(155,tC),(157,tH),(158,tJ),(159,tJ),(162,VQ)]
def tab:TypeId->Option TI:=λt=>dB t UY
theorem Uq:bT Tryd.prog tab:=(show bT Tryd.prog (λt=>dB t UY)from bT.of_list _ (by kernel_rfl))
theorem OH:pU Tryd.prog=true:=by kernel_rfl
theorem NS:Tryd.prog.follows .mixedOrders=true:=by kernel_rfl
theorem zz:Vl Tryd.prog tab:=⟨OH,NS,Uq⟩
abbrev hA:Sh:= .int .i64
abbrev hB:Sh:= .int .u64
abbrev hC:Sh:= .msw 1 0
abbrev hD:Sh:= .msw 2 0
abbrev hE:Sh:= .msw 3 0
abbrev hF:Sh:= .msw 0 0
abbrev hG:Sh:=u1 .bool
abbrev hH:Sh:= .msw 4 0
abbrev hI:Sh:= .msw 1 1
abbrev hJ:Sh:= .sl true false yA
abbrev hK:Sh:= .sl true true yB
abbrev hL:Sh:= .sl true true yC
abbrev hM:Sh:= .sl true false .str
abbrev hN:Sh:= .sl true true yD
abbrev hO:Sh:= .sl true true yE
abbrev hP:Sh:= .sl true false yF
abbrev hQ:Sh:= .sl false true yD
abbrev hR:Sh:= .sl true false yG
abbrev hS:Sh:= .ptr 0 0 0 0
abbrev hT:Sh:=u1 hA
abbrev hU:Sh:=u1 (.tup .nil)
abbrev hV:Sh:= .ptr 1 0 0 0
abbrev hW:Sh:= .sl true false (.int .u64)
abbrev hX:Sh:= .bts 0 false false true yH
abbrev hY:Sh:= .bts 0 false false false yG
abbrev hZ:Sh:= .sl false false (.int .u8)
abbrev TO:Sh:=u1 hF
abbrev VO:Sh:= .bts 0 false false true yD
abbrev U3:Sh:=u1 (.ms 0 0)
abbrev U2:Sh:= .sl false false (.int .i64)
abbrev Vd:Sh:= .bts 0 false false false (.int .i64)
abbrev H5:Sh:=u1 hS
abbrev Vm:Sh:= .bts 0 false false false (.int .u8)
abbrev Vr:Sh:= .bts 1 false false false (.int .i64)
abbrev VC:Sh:= .bts 2 false false false (.int .i64)
abbrev Tb:Sh:=u1 hZ
abbrev S7:Sh:=u1 VO
abbrev Rn:Sh:=u2 hA hA
abbrev Ur:Sh:=u1 Vm
abbrev US:Sh:= .agg Rn
abbrev U1:Sh:=u2 hS hA
abbrev vP:Sh:=u1 (.bcells 0 false 1 hT)
abbrev UC:Sh:=u1 US
abbrev UX:Sh:=u1 (.tup Rn)
abbrev Vs:Sh:=u3 hS hA .bool
abbrev UD:Sh:= .agg (u3 hA hA hA)
abbrev U5:Sh:=u3 hS hA hA
abbrev UP:Sh:= .bos 0 false (.cons .bool (.sl true (.cons (.int .i64) (.int .i64)))) .nil
abbrev U7:Sh:= .bos 1 false (.cons .bool (.sl true (.cons (.int .i64) (.int .i64)))) .nil
abbrev U9:Sh:= .bcells 0 false 1 (u2 hN hN)
abbrev Uz:Sh:=u4 hS hK hA hA
abbrev On:Sh:=u2 (.bcells 0 false 1 (u1 hC)) Vm
abbrev UE:Sh:=u2 (.bcells 0 false 1 (u1 hI)) (.bts 1 false false false (.int .u8))
abbrev Vk:Sh:=u1 (.tup (u2 (.agg (u2 hN hN)) .bool))
abbrev VJ:Sh:=u2 Vm (.bcells 0 false 1 Rn)
abbrev VI:Sh:=u2 hO (.fn 49 .nil (u2 hS hV))
abbrev VH:Sh:=u2 US US
abbrev UH:Sh:= .agg (u5 hN hA hA hN hO)
abbrev MY:Sh:= .bos 0 false (.sl true (.cons (.int .i64) (.cons (.int .i64) (.cons (.int .i64) (.cons (.int .i64) (.cons (.int .i64) (.int .i64))))))) .nil
abbrev UF:Sh:= .bcells 0 false 1 (u5 hN hA hA hN hO)
abbrev UJ:Sh:= .agg (u5 hJ hK hL hW hM)
abbrev VL:Sh:=u7 hS hA (.ptrI 1 1 0) .bool hN hA hA
abbrev P1:Sh:=u1 UJ
abbrev Q3:Sh:= .bcells 0 false 1 (u5 hJ hK hL hW hM)
abbrev SH:Sh:=u1 Q3
abbrev Vi:Sh:= .bos 0 false (.sl true (.cons (.int .i64) (.cons (.int .i64) (.cons (.int .i64) (.cons (.int .i64) (.cons (.int .i64) (.int .i64))))))) (u1 (.agg (u2 (.ptrI 0 0 0) hE)))
abbrev Vv:Sh:= .bos 0 false (.sl true (.cons (.int .i64) (.cons (.int .i64) (.cons (.int .i64) (.cons (.int .i64) (.cons (.int .i64) (.int .i64))))))) (u1 (.agg (u2 (.ptrI 0 0 0) hD)))
abbrev Vy:Sh:=u4 UJ hA hA hN
abbrev UO:Sh:=u2 (.bcells 0 false 1 (u8 hJ hK hL hW hM hA hC .nilS)) UP
abbrev Vp:Sh:=u2 (.bcells 0 false 1 (u8 hJ hK hL hW hM hA hI .nilS)) U7
abbrev SF:Sh:=u2 Q3 UF
abbrev TS:Sh:=u3 (.bcells 0 false 1 (u8 hJ hK hL hW hM hA hC (.ms 2 0))) UP Vd
abbrev TX:Sh:=u3 (.bcells 0 false 1 (u8 hJ hK hL hW hM hA hI (.ms 2 1))) U7 Vr
abbrev VG:Sh:=u3 UJ UH UD
abbrev Vj:Sh:=u3 Q3 MY MY
abbrev Vt:Sh:=u5 (.bos 0 false (.sl true (.cons (.int .i64) (.cons (.int .i64) (.cons (.int .i64) (.cons (.int .i64) (.cons (.int .i64) (.int .i64))))))) (u1 (.agg (u2 (.ptrI 0 0 0) hH)))) Vi .bnone hX hX
def qas_E(n:Nat):aE:=⟨(SN [0] P1 .nil),[SY [0] hG .nil],λd=>qas n d.1 d.2.1 d.2.2.1 d.2.2.2.1 d.2.2.2.2⟩
def qas_ls(n:Nat):List (Nat×aT):= [(0,⟨[SN [1,3,4] U5 SH],[SX 0 [1,3] U1 SH],qas_W0 n⟩),(2,⟨[SN [1,3,5] U5 SH],[SX 2 [1,3] U1 SH],qas_W2 n⟩),(4,⟨[SN [1,3,6] U5 SH],[SX 4 [1,3] U1 SH],qas_W4 n⟩),(6,⟨[SN [1,3,7] U5 SH],[SX 6 [3] hT SH],qas_W6 n⟩)]
theorem qas_ok(n:Nat):bE Tryd.prog 15 (qas_E n):=
 bE.bS n zz Tryd.f15 {live:= [(0,[1,3,4]),(2,[1,3,5]),(4,[1,3,6]),(6,[1,3,7])]} (qas_ls n) .e (.k (λ_=>rfl) (λ_=>by kernel_rfl) (.k (λ_=>rfl) (λ_=>by kernel_rfl) (.k (λ_=>rfl) (λ_=>by kernel_rfl) (.k (λ_=>rfl) (λ_=>by kernel_rfl) .e)))) (by kernel_rfl) (by kernel_rfl) λ_=>by kernel_rfl
def qbl_E(n:Nat):aE:=⟨(SN [0,1] (u2 US hA) .nil),[SY [0] hG .nil],λd=>qbl n d.1.1 d.1.2 d.2⟩
theorem qbl_ok(n:Nat):bE Tryd.prog 104 (qbl_E n):=
 bE.bS n zz Tryd.f104 {} [] .e .e (by kernel_rfl) (by kernel_rfl) λ_=>by kernel_rfl
def qan_E(n:Nat):aE:=⟨(SN [0,1] (u2 US hS) vP),[SY [0] hG vP],λd=>qan n d.1.1 d.1.2 d.2⟩
theorem qan_ok(n:Nat):bE Tryd.prog 116 (qan_E n):=
 bE.bS n zz Tryd.f116 {} [] (.k (qbl_ok n) .e) .e (by kernel_rfl) (by kernel_rfl) λ_=>by kernel_rfl
def qab_E(n:Nat):aE:=⟨(SN [0,1] (u2 hN (.fn 116 .nil H5)) vP),[SY [0] hT vP],λd=>qab n d.1 d.2⟩
def qab_ls(n:Nat):List (Nat×aT):= [(0,⟨[SN [0,1,7,8] (u4 hN (.fn 116 .nil H5) hA hA) vP],[SY [4] hT vP,SX 0 [] .nil vP],qab_W0 n⟩)]
theorem qab_ok(n:Nat):bE Tryd.prog 85 (qab_E n):=
 bE.bS n zz Tryd.f85 {live:= [(0,[0,1,7,8])]} (qab_ls n) (.k (qan_ok n) .e) (.k (λ_=>rfl) (λ_=>by kernel_rfl) .e) (by kernel_rfl) (by kernel_rfl) λ_=>by kernel_rfl
def qs_E(n:Nat):aE:=⟨(SN [0,1] (u2 hN (.fn 116 .nil H5)) vP),[SY [0] hG vP],λd=>qs n d.1 d.2⟩
theorem qs_ok(n:Nat):bE Tryd.prog 52 (qs_E n):=
 bE.bS n zz Tryd.f52 {} [] (.k (qab_ok n) .e) .e (by kernel_rfl) (by kernel_rfl) λ_=>by kernel_rfl
def qay_E(n:Nat):aE:=⟨(SN [0,1,2] (u3 hN hA hA) .nil),[SY [0] hG .nil],λd=>qay n d.1 d.2.1 d.2.2⟩
theorem qay_ok(n:Nat):bE Tryd.prog 99 (qay_E n):=
 bE.bS n zz Tryd.f99 {} [] (.k (qs_ok n) .e) .e (by kernel_rfl) (by kernel_rfl) λ_=>by kernel_rfl
def qaq_E(n:Nat):aE:=⟨(SN [0,1] (u2 hN hS) vP),[SY [0] hG vP],λd=>qaq n d.1 d.2⟩
theorem qaq_ok(n:Nat):bE Tryd.prog 98 (qaq_E n):=
 bE.bS n zz Tryd.f98 {} [] (.k (qay_ok n) .e) .e (by kernel_rfl) (by kernel_rfl) λ_=>by kernel_rfl
def qw_E(n:Nat):aE:=⟨(SN [0,1] (u2 hJ (.fn 98 .nil H5)) vP),[SY [0] hT vP],λd=>qw n d.1 d.2⟩
def qw_ls(n:Nat):List (Nat×aT):= [(0,⟨[SN [0,1,7,8] (u4 hJ (.fn 98 .nil H5) hA hA) vP],[SY [4] hT vP,SX 0 [] .nil vP],qw_W0 n⟩)]
theorem qw_ok(n:Nat):bE Tryd.prog 115 (qw_E n):=
 bE.bS n zz Tryd.f115 {live:= [(0,[0,1,7,8])]} (qw_ls n) (.k (qaq_ok n) .e) (.k (λ_=>rfl) (λ_=>by kernel_rfl) .e) (by kernel_rfl) (by kernel_rfl) λ_=>by kernel_rfl
def qg_E(n:Nat):aE:=⟨(SN [0,1] (u2 hJ (.fn 98 .nil H5)) vP),[SY [0] hG vP],λd=>qg n d.1 d.2⟩
theorem qg_ok(n:Nat):bE Tryd.prog 97 (qg_E n):=
 bE.bS n zz Tryd.f97 {} [] (.k (qw_ok n) .e) .e (by kernel_rfl) (by kernel_rfl) λ_=>by kernel_rfl
def qbp_E(n:Nat):aE:=⟨(SN [0] hT .nil),[SY [0] hT .nil],λd=>qbp n d⟩
theorem qbp_ok(n:Nat):bE Tryd.prog 120 (qbp_E n):=
 bE.bS n zz Tryd.f120 {} [] .e .e (by kernel_rfl) (by kernel_rfl) λ_=>by kernel_rfl
def qby_E(n:Nat):aE:=⟨(SN [0,1] (u2 hA .bool) .nil),[SY [0] hG .nil],λd=>qby n d.1 d.2⟩
theorem qby_ok(n:Nat):bE Tryd.prog 121 (qby_E n):=
 bE.bS n zz Tryd.f121 {} [] .e .e (by kernel_rfl) (by kernel_rfl) λ_=>by kernel_rfl
def qcc_E(n:Nat):aE:=⟨(SN [0] (u1 hB) .nil),[SY [0] TO Ur],λd=>qcc n d⟩
def qcc_ls(n:Nat):List (Nat×aT):= [(0,⟨[SN [0,3] (u2 hB hF) Ur],[SX 0 [0,3] (u2 hB hF) Ur],qcc_W0 n⟩)]
theorem qcc_ok(n:Nat):bE Tryd.prog 107 (qcc_E n):=
 bE.b n zz Tryd.f107 {live:= [(0,[0,3])],boxed:= [(0,0),(1,0),(4,5),(5,4)]} (qcc_ls n) .e (.k (λ_=>rfl) (λ_=>by kernel_rfl) .e) (by kernel_rfl) (by kernel_rfl) λ_=>by kernel_rfl
def qca_E(n:Nat):aE:=⟨(SN [0] (u1 UD) .nil),[SY [0] Tb .nil],λd=>qca n d.1 d.2.1 d.2.2⟩
def qca_ls(n:Nat):List (Nat×aT):= [(0,⟨[SN [4,39,40,41] (u4 hF (.ms 1 0) hA hA) VJ],[SX 0 [4] TO VJ],qca_W0 n⟩)]
theorem qca_ok(n:Nat):bE Tryd.prog 111 (qca_E n):=
 bE.bS n zz Tryd.f111 {live:= [(0,[4,39,40,41])],boxed:= [(4,3),(9,4)]} (qca_ls n) (.k (qbp_ok n) (.k (qby_ok n) (.k (qcc_ok n) .e))) (.k (λ_=>rfl) (λ_=>by kernel_rfl) .e) (by kernel_rfl) (by kernel_rfl) λ_=>by kernel_rfl
def qaa_E(n:Nat):aE:=⟨(SN [0] (u1 UD) .nil),[SY [0] hG .nil],λd=>qaa n d.1 d.2.1 d.2.2⟩
theorem qaa_ok(n:Nat):bE Tryd.prog 118 (qaa_E n):=
 bE.bS n zz Tryd.f118 {} [] (.k (qca_ok n) .e) .e (by kernel_rfl) (by kernel_rfl) λ_=>by kernel_rfl
def qz_E(n:Nat):aE:=⟨(SN [0,1] (u2 hO (.fn 118 .nil .nil)) .nil),[SY [0] hT .nil],λd=>qz n d⟩
def qz_ls(n:Nat):List (Nat×aT):= [(0,⟨[SN [0,1,7,8] (u4 hO (.fn 118 .nil .nil) hA hA) .nil],[SY [4] hT .nil,SX 0 [] .nil .nil],qz_W0 n⟩)]
theorem qz_ok(n:Nat):bE Tryd.prog 84 (qz_E n):=
 bE.bS n zz Tryd.f84 {live:= [(0,[0,1,7,8])]} (qz_ls n) (.k (qaa_ok n) .e) (.k (λ_=>rfl) (λ_=>by kernel_rfl) .e) (by kernel_rfl) (by kernel_rfl) λ_=>by kernel_rfl
def ql_E(n:Nat):aE:=⟨(SN [0,1] (u2 hO (.fn 118 .nil .nil)) .nil),[SY [0] hG .nil],λd=>ql n d⟩
theorem ql_ok(n:Nat):bE Tryd.prog 51 (ql_E n):=
 bE.bS n zz Tryd.f51 {} [] (.k (qz_ok n) .e) .e (by kernel_rfl) (by kernel_rfl) λ_=>by kernel_rfl
def qag_E(n:Nat):aE:=⟨(SN [0,1] (u2 UH hA) .nil),[SY [0] hG .nil],λd=>qag n d.1.1 d.1.2.1 d.1.2.2.1 d.1.2.2.2.1 d.1.2.2.2.2 d.2⟩
theorem qag_ok(n:Nat):bE Tryd.prog 102 (qag_E n):=
 bE.bS n zz Tryd.f102 {} [] (.k (qay_ok n) (.k (qbl_ok n) (.k (ql_ok n) .e))) .e (by kernel_rfl) (by kernel_rfl) λ_=>by kernel_rfl
def qao_E(n:Nat):aE:=⟨(SN [0,1] (u2 UH hS) vP),[SY [0] hG vP],λd=>qao n d.1.1 d.1.2.1 d.1.2.2.1 d.1.2.2.2.1 d.1.2.2.2.2 d.2⟩
theorem qao_ok(n:Nat):bE Tryd.prog 101 (qao_E n):=
 bE.bS n zz Tryd.f101 {} [] (.k (qag_ok n) .e) .e (by kernel_rfl) (by kernel_rfl) λ_=>by kernel_rfl
def qaf_E(n:Nat):aE:=⟨(SN [0,1] (u2 hK (.fn 101 .nil H5)) vP),[SY [0] hT vP],λd=>qaf n d.1 d.2⟩
def qaf_ls(n:Nat):List (Nat×aT):= [(0,⟨[SN [0,1,7,8] (u4 hK (.fn 101 .nil H5) hA hA) vP],[SY [4] hT vP,SX 0 [] .nil vP],qaf_W0 n⟩)]
theorem qaf_ok(n:Nat):bE Tryd.prog 117 (qaf_E n):=
 bE.bS n zz Tryd.f117 {live:= [(0,[0,1,7,8])]} (qaf_ls n) (.k (qao_ok n) .e) (.k (λ_=>rfl) (λ_=>by kernel_rfl) .e) (by kernel_rfl) (by kernel_rfl) λ_=>by kernel_rfl
def qr_E(n:Nat):aE:=⟨(SN [0,1] (u2 hK (.fn 101 .nil H5)) vP),[SY [0] hG vP],λd=>qr n d.1 d.2⟩
theorem qr_ok(n:Nat):bE Tryd.prog 100 (qr_E n):=
 bE.bS n zz Tryd.f100 {} [] (.k (qaf_ok n) .e) .e (by kernel_rfl) (by kernel_rfl) λ_=>by kernel_rfl
def qap_E(n:Nat):aE:=⟨(SN [0,1] (u2 (.agg (u3 hN hA hA)) hS) vP),[SY [0] hG vP],λd=>qap n d.1.1 d.1.2.1 d.1.2.2 d.2⟩
theorem qap_ok(n:Nat):bE Tryd.prog 103 (qap_E n):=
 bE.bS n zz Tryd.f103 {} [] (.k (qay_ok n) (.k (qbl_ok n) .e)) .e (by kernel_rfl) (by kernel_rfl) λ_=>by kernel_rfl
def qv_E(n:Nat):aE:=⟨(SN [0,1] (u2 hL (.fn 103 .nil H5)) vP),[SY [0] hT vP],λd=>qv n d.1 d.2⟩
def qv_ls(n:Nat):List (Nat×aT):= [(0,⟨[SN [0,1,7,8] (u4 hL (.fn 103 .nil H5) hA hA) vP],[SY [4] hT vP,SX 0 [] .nil vP],qv_W0 n⟩)]
theorem qv_ok(n:Nat):bE Tryd.prog 86 (qv_E n):=
 bE.bS n zz Tryd.f86 {live:= [(0,[0,1,7,8])]} (qv_ls n) (.k (qap_ok n) .e) (.k (λ_=>rfl) (λ_=>by kernel_rfl) .e) (by kernel_rfl) (by kernel_rfl) λ_=>by kernel_rfl
def qj_E(n:Nat):aE:=⟨(SN [0,1] (u2 hL (.fn 103 .nil H5)) vP),[SY [0] hG vP],λd=>qj n d.1 d.2⟩
theorem qj_ok(n:Nat):bE Tryd.prog 57 (qj_E n):=
 bE.bS n zz Tryd.f57 {} [] (.k (qv_ok n) .e) .e (by kernel_rfl) (by kernel_rfl) λ_=>by kernel_rfl
def qaj_E(n:Nat):aE:=⟨(SN [0] (u1 .str) .nil),[SY [0] hG .nil],λd=>qaj n d⟩
theorem qaj_ok(n:Nat):bE Tryd.prog 106 (qaj_E n):=
 bE.bS n zz Tryd.f106 {} [] .e .e (by kernel_rfl) (by kernel_rfl) λ_=>by kernel_rfl
def qu_E(n:Nat):aE:=⟨(SN [0,1] (u2 hM (.fn 106 .nil .nil)) .nil),[SY [0] hT .nil],λd=>qu n d⟩
def qu_ls(n:Nat):List (Nat×aT):= [(0,⟨[SN [0,1,7,8] (u4 hM (.fn 106 .nil .nil) hA hA) .nil],[SY [4] hT .nil,SX 0 [] .nil .nil],qu_W0 n⟩)]
theorem qu_ok(n:Nat):bE Tryd.prog 119 (qu_E n):=
 bE.bS n zz Tryd.f119 {live:= [(0,[0,1,7,8])]} (qu_ls n) (.k (qaj_ok n) .e) (.k (λ_=>rfl) (λ_=>by kernel_rfl) .e) (by kernel_rfl) (by kernel_rfl) λ_=>by kernel_rfl
def qh_E(n:Nat):aE:=⟨(SN [0,1] (u2 hM (.fn 106 .nil .nil)) .nil),[SY [0] hG .nil],λd=>qh n d⟩
theorem qh_ok(n:Nat):bE Tryd.prog 105 (qh_E n):=
 bE.bS n zz Tryd.f105 {} [] (.k (qu_ok n) .e) .e (by kernel_rfl) (by kernel_rfl) λ_=>by kernel_rfl
def qba_E(n:Nat):aE:=⟨(SN [0] P1 .nil),[SY [0] hG .nil],λd=>qba n d.1 d.2.1 d.2.2.1 d.2.2.2.1 d.2.2.2.2⟩
theorem qba_ok(n:Nat):bE Tryd.prog 76 (qba_E n):=
 bE.bS n zz Tryd.f76 {} [] (.k (qg_ok n) (.k (qr_ok n) (.k (qj_ok n) (.k (qh_ok n) .e)))) .e (by kernel_rfl) (by kernel_rfl) λ_=>by kernel_rfl
def qm_E(n:Nat):aE:=⟨(SN [0,1] U1 (u1 (.bcells 0 false 1 (u1 .nilS)))),[SY [0] hU On],λd=>qm n d⟩
theorem qm_ok(n:Nat):bE Tryd.prog 108 (qm_E n):=
 bE.bS n zz Tryd.f108 {boxed:= [(0,8)]} [] (.k (qcc_ok n) .e) .e (by kernel_rfl) (by kernel_rfl) λ_=>by kernel_rfl
def qd_E(n:Nat):aE:=⟨(SN [0,1] U1 On),[SY [0] hU UE],λd=>qd n d.1 d.2⟩
theorem qd_ok(n:Nat):bE Tryd.prog 108 (qd_E n):=
 bE.bS n zz Tryd.f108 {boxed:= [(0,8)]} [] (.k (qcc_ok n) .e) .e (by kernel_rfl) (by kernel_rfl) λ_=>by kernel_rfl
def qbx_E(n:Nat):aE:=⟨(SN [0] UC .nil),[SY [0] Tb .nil],λd=>qbx n d.1 d.2⟩
theorem qbx_ok(n:Nat):bE Tryd.prog 110 (qbx_E n):=
 bE.bS n zz Tryd.f110 {raw:= [(1,4)]} [] (.k (qcc_ok n) .e) .e (by kernel_rfl) (by kernel_rfl) λ_=>by kernel_rfl
def qo_E(n:Nat):aE:=⟨(SN [0,1] (u2 hS hN) On),[SY [0] hU UE],λd=>qo n d.1 d.2⟩
def qo_ls(n:Nat):List (Nat×aT):= [(0,⟨[SN [0,10,11,12] (u4 hS hN hA hA) UE],[SX 0 [] .nil UE],qo_W0 n⟩)]
theorem qo_ok(n:Nat):bE Tryd.prog 109 (qo_E n):=
 bE.bS n zz Tryd.f109 {live:= [(0,[0,10,11,12])],boxed:= [(4,7)]} (qo_ls n) (.k (qd_ok n) (.k (qbx_ok n) .e)) (.k (λ_=>rfl) (λ_=>by kernel_rfl) .e) (by kernel_rfl) (by kernel_rfl) λ_=>by kernel_rfl
def qae_E(n:Nat):aE:=⟨(SN [0] P1 .nil),[SY [0] Tb .nil],λd=>qae n d.1 d.2.1 d.2.2.1 d.2.2.2.1 d.2.2.2.2⟩
def qae_ls(n:Nat):List (Nat×aT):= [(0,⟨[SN [3,14,15,16] (u4 hS hJ hA hA) On],[SX 0 [3] H5 On],qae_W0 n⟩)]
theorem qae_ok(n:Nat):bE Tryd.prog 78 (qae_E n):=
 bE.bS n zz Tryd.f78 {live:= [(0,[3,14,15,16])]} (qae_ls n) (.k (qm_ok n) (.k (qo_ok n) .e)) (.k (λ_=>rfl) (λ_=>by kernel_rfl) .e) (by kernel_rfl) (by kernel_rfl) λ_=>by kernel_rfl
def qt_E(n:Nat):aE:=⟨(SN [0] P1 .nil),[SY [0] Tb .nil],λd=>qt n d.1 d.2.1 d.2.2.1 d.2.2.2.1 d.2.2.2.2⟩
def qt_ls(n:Nat):List (Nat×aT):= [(2,⟨[SN [3,16,17,18,47,48,49] (u7 hS hK hA hA hO hA hA) On],[SX 2 [3,16,17,18] Uz On],qt_W2 n⟩),(0,⟨[SN [3,16,17,18] Uz On],[SX 0 [3] H5 On],qt_W0 n⟩)]
theorem qt_ok(n:Nat):bE Tryd.prog 79 (qt_E n):=
 bE.bS n zz Tryd.f79 {live:= [(0,[3,16,17,18]),(2,[3,16,17,18,47,48,49])],boxed:= [(7,8),(13,7)]} (qt_ls n) (.k (qm_ok n) (.k (qd_ok n) (.k (qo_ok n) (.k (qbx_ok n) (.k (qca_ok n) .e))))) (.k (λ_=>rfl) (λ_=>by kernel_rfl) (.k (λ_=>rfl) (λ_=>by kernel_rfl) .e)) (by kernel_rfl) (by kernel_rfl) λ_=>by kernel_rfl
def qad_E(n:Nat):aE:=⟨(SN [0] P1 .nil),[SY [0] Tb .nil],λd=>qad n d.1 d.2.1 d.2.2.1 d.2.2.2.1 d.2.2.2.2⟩
def qad_ls(n:Nat):List (Nat×aT):= [(0,⟨[SN [3,14,15,16] (u4 hS hL hA hA) On],[SX 0 [3] H5 On],qad_W0 n⟩)]
theorem qad_ok(n:Nat):bE Tryd.prog 80 (qad_E n):=
 bE.bS n zz Tryd.f80 {live:= [(0,[3,14,15,16])],boxed:= [(7,8)]} (qad_ls n) (.k (qm_ok n) (.k (qo_ok n) (.k (qbx_ok n) .e))) (.k (λ_=>rfl) (λ_=>by kernel_rfl) .e) (by kernel_rfl) (by kernel_rfl) λ_=>by kernel_rfl
def qbw_E(n:Nat):aE:=⟨(SN [0,1] (u2 hB hA) .nil),[SY [0] Tb .nil],λd=>qbw n d.1 d.2⟩
def qbw_ls(n:Nat):List (Nat×aT):= [(0,⟨[SN [0,5,9,10] (u4 hB hF hA hA) Ur],[SX 0 [5] TO Ur],qbw_W0 n⟩)]
theorem qbw_ok(n:Nat):bE Tryd.prog 112 (qbw_E n):=
 bE.bS n zz Tryd.f112 {live:= [(0,[0,5,9,10])],boxed:= [(1,0),(5,7)]} (qbw_ls n) .e (.k (λ_=>rfl) (λ_=>by kernel_rfl) .e) (by kernel_rfl) (by kernel_rfl) λ_=>by kernel_rfl
def qac_E(n:Nat):aE:=⟨(SN [0] P1 .nil),[SY [0] Tb .nil],λd=>qac n d.1 d.2.1 d.2.2.1 d.2.2.2.1 d.2.2.2.2⟩
def qac_ls(n:Nat):List (Nat×aT):= [(0,⟨[SN [3,14,15,16] (u4 hS hW hA hA) On],[SX 0 [3] H5 On],qac_W0 n⟩)]
theorem qac_ok(n:Nat):bE Tryd.prog 81 (qac_E n):=
 bE.bS n zz Tryd.f81 {live:= [(0,[3,14,15,16])],boxed:= [(6,7)]} (qac_ls n) (.k (qm_ok n) (.k (qbw_ok n) .e)) (.k (λ_=>rfl) (λ_=>by kernel_rfl) .e) (by kernel_rfl) (by kernel_rfl) λ_=>by kernel_rfl
def qal_E(n:Nat):aE:=⟨(SN [0] P1 .nil),[SY [0] Tb .nil],λd=>qal n d.1 d.2.1 d.2.2.1 d.2.2.2.1 d.2.2.2.2⟩
def qal_ls(n:Nat):List (Nat×aT):= [(0,⟨[SN [3,14,15,16] (u4 hS hM hA hA) On],[SX 0 [3] H5 On],qal_W0 n⟩)]
theorem qal_ok(n:Nat):bE Tryd.prog 82 (qal_E n):=
 bE.bS n zz Tryd.f82 {live:= [(0,[3,14,15,16])],boxed:= [(7,6)]} (qal_ls n) (.k (qm_ok n) (.k (qd_ok n) .e)) (.k (λ_=>rfl) (λ_=>by kernel_rfl) .e) (by kernel_rfl) (by kernel_rfl) λ_=>by kernel_rfl
def qbq_E(n:Nat):aE:=⟨(SN [0] (u1 hP) .nil),[SY [0] Tb .nil],λd=>qbq n d⟩
def qbq_ls(n:Nat):List (Nat×aT):= [(0,⟨[SN [3,10,11,12] (u4 hF hP hA hA) Ur],[SX 0 [3] TO Ur],qbq_W0 n⟩)]
theorem qbq_ok(n:Nat):bE Tryd.prog 77 (qbq_E n):=
 bE.bS n zz Tryd.f77 {live:= [(0,[3,10,11,12])],boxed:= [(5,5),(6,2)],raw:= [(1,3)]} (qbq_ls n) (.k (qcc_ok n) .e) (.k (λ_=>rfl) (λ_=>by kernel_rfl) .e) (by kernel_rfl) (by kernel_rfl) λ_=>by kernel_rfl
def qah_E(n:Nat):aE:=⟨(SN [0] P1 .nil),[SY [0] (u1 (.tup (u2 hZ hA))) .nil],λd=>qah n d.1 d.2.1 d.2.2.1 d.2.2.2.1 d.2.2.2.2⟩
theorem qah_ok(n:Nat):bE Tryd.prog 48 (qah_E n):=
 bE.bS n zz Tryd.f48 {} [] (.k (qba_ok n) (.k (qae_ok n) (.k (qt_ok n) (.k (qad_ok n) (.k (qac_ok n) (.k (qal_ok n) (.k (qbq_ok n) .e))))))) .e (by kernel_rfl) (by kernel_rfl) λ_=>by kernel_rfl
def qbd_E(n:Nat):aE:=⟨(SN [0,1] Rn .nil),[SY [0] hG .nil],λd=>qbd n d.1 d.2⟩
theorem qbd_ok(n:Nat):bE Tryd.prog 83 (qbd_E n):=
 bE.bS n zz Tryd.f83 {} [] .e .e (by kernel_rfl) (by kernel_rfl) λ_=>by kernel_rfl
def qbj_E(n:Nat):aE:=⟨(SN [0,1,2] VG .nil),[SY [0] hG .nil],λd=>qbj n d.1.1 d.1.2.1 d.1.2.2.1 d.1.2.2.2.1 d.1.2.2.2.2 d.2.1.1 d.2.1.2.1 d.2.1.2.2.1 d.2.1.2.2.2.1 d.2.1.2.2.2.2 d.2.2.1 d.2.2.2.1 d.2.2.2.2⟩
theorem qbj_ok(n:Nat):bE Tryd.prog 50 (qbj_E n):=
 bE.bS n zz Tryd.f50 {} [] (.k (qbd_ok n) .e) .e (by kernel_rfl) (by kernel_rfl) λ_=>by kernel_rfl
def qaz_E(n:Nat):aE:=⟨(SN [0,1,2] (u3 UD hS hV) SF),[SY [0] hG SF],λd=>qaz n d.1.1 d.1.2.1 d.1.2.2 d.2.1.1 d.2.1.2.1 d.2.1.2.2.1 d.2.1.2.2.2.1 d.2.1.2.2.2.2 d.2.2.1 d.2.2.2.1 d.2.2.2.2.1 d.2.2.2.2.2.1 d.2.2.2.2.2.2⟩
theorem qaz_ok(n:Nat):bE Tryd.prog 49 (qaz_E n):=
 bE.bS n zz Tryd.f49 {} [] (.k (qbj_ok n) .e) .e (by kernel_rfl) (by kernel_rfl) λ_=>by kernel_rfl
def qq_E(n:Nat):aE:=⟨(SN [0,1] VI SF),[SY [0] hT SF],λd=>qq n d.1 d.2.1.1 d.2.1.2.1 d.2.1.2.2.1 d.2.1.2.2.2.1 d.2.1.2.2.2.2 d.2.2.1 d.2.2.2.1 d.2.2.2.2.1 d.2.2.2.2.2.1 d.2.2.2.2.2.2⟩
def qq_ls(n:Nat):List (Nat×aT):= [(0,⟨[SN [0,1,7,8] (u4 hO (.fn 49 .nil (u2 hS hV)) hA hA) SF],[SY [4] hT SF,SX 0 [] .nil SF],qq_W0 n⟩)]
theorem qq_ok(n:Nat):bE Tryd.prog 84 (qq_E n):=
 bE.bS n zz Tryd.f84 {live:= [(0,[0,1,7,8])]} (qq_ls n) (.k (qaz_ok n) .e) (.k (λ_=>rfl) (λ_=>by kernel_rfl) .e) (by kernel_rfl) (by kernel_rfl) λ_=>by kernel_rfl
def qe_E(n:Nat):aE:=⟨(SN [0,1] VI SF),[SY [0] hG SF],λd=>qe n d.1 d.2.1.1 d.2.1.2.1 d.2.1.2.2.1 d.2.1.2.2.2.1 d.2.1.2.2.2.2 d.2.2.1 d.2.2.2.1 d.2.2.2.2.1 d.2.2.2.2.2.1 d.2.2.2.2.2.2⟩
theorem qe_ok(n:Nat):bE Tryd.prog 51 (qe_E n):=
 bE.bS n zz Tryd.f51 {} [] (.k (qq_ok n) .e) .e (by kernel_rfl) (by kernel_rfl) λ_=>by kernel_rfl
def qau_E(n:Nat):aE:=⟨(SN [0] UC .nil),[SY [0] hG .nil],λd=>qau n d.1 d.2⟩
theorem qau_ok(n:Nat):bE Tryd.prog 53 (qau_E n):=
 bE.bS n zz Tryd.f53 {} [] .e .e (by kernel_rfl) (by kernel_rfl) λ_=>by kernel_rfl
def qy_E(n:Nat):aE:=⟨(SN [0,1] (u2 hN (.fn 53 .nil .nil)) .nil),[SY [0] hT .nil],λd=>qy n d⟩
def qy_ls(n:Nat):List (Nat×aT):= [(0,⟨[SN [0,1,7,8] (u4 hN (.fn 53 .nil .nil) hA hA) .nil],[SY [4] hT .nil,SX 0 [] .nil .nil],qy_W0 n⟩)]
theorem qy_ok(n:Nat):bE Tryd.prog 85 (qy_E n):=
 bE.bS n zz Tryd.f85 {live:= [(0,[0,1,7,8])]} (qy_ls n) (.k (qau_ok n) .e) (.k (λ_=>rfl) (λ_=>by kernel_rfl) .e) (by kernel_rfl) (by kernel_rfl) λ_=>by kernel_rfl
def qi_E(n:Nat):aE:=⟨(SN [0,1] (u2 hN (.fn 53 .nil .nil)) .nil),[SY [0] hG .nil],λd=>qi n d⟩
theorem qi_ok(n:Nat):bE Tryd.prog 52 (qi_E n):=
 bE.bS n zz Tryd.f52 {} [] (.k (qy_ok n) .e) .e (by kernel_rfl) (by kernel_rfl) λ_=>by kernel_rfl
def qbn_E(n:Nat):aE:=⟨(SN [0] UC .nil),[SY [0] hG .nil],λd=>qbn n d.1 d.2⟩
theorem qbn_ok(n:Nat):bE Tryd.prog 55 (qbn_E n):=
 bE.bS n zz Tryd.f55 {} [] .e .e (by kernel_rfl) (by kernel_rfl) λ_=>by kernel_rfl
def qak_E(n:Nat):aE:=⟨(SN [0] UC .nil),[SY [0] hG .nil],λd=>qak n d.1 d.2⟩
theorem qak_ok(n:Nat):bE Tryd.prog 56 (qak_E n):=
 bE.bS n zz Tryd.f56 {} [] (.k (qbn_ok n) .e) .e (by kernel_rfl) (by kernel_rfl) λ_=>by kernel_rfl
def qx_E(n:Nat):aE:=⟨(SN [0,1] (u2 hN (.fn 56 .nil .nil)) .nil),[SY [0] hT .nil],λd=>qx n d⟩
def qx_ls(n:Nat):List (Nat×aT):= [(0,⟨[SN [0,1,7,8] (u4 hN (.fn 56 .nil .nil) hA hA) .nil],[SY [4] hT .nil,SX 0 [] .nil .nil],qx_W0 n⟩)]
theorem qx_ok(n:Nat):bE Tryd.prog 85 (qx_E n):=
 bE.bS n zz Tryd.f85 {live:= [(0,[0,1,7,8])]} (qx_ls n) (.k (qak_ok n) .e) (.k (λ_=>rfl) (λ_=>by kernel_rfl) .e) (by kernel_rfl) (by kernel_rfl) λ_=>by kernel_rfl
def qf_E(n:Nat):aE:=⟨(SN [0,1] (u2 hN (.fn 56 .nil .nil)) .nil),[SY [0] hG .nil],λd=>qf n d⟩
theorem qf_ok(n:Nat):bE Tryd.prog 52 (qf_E n):=
 bE.bS n zz Tryd.f52 {} [] (.k (qx_ok n) .e) .e (by kernel_rfl) (by kernel_rfl) λ_=>by kernel_rfl
def qav_E(n:Nat):aE:=⟨(SN [0] (u1 (.agg (u3 hN hA hA))) .nil),[SY [0] hG .nil],λd=>qav n d.1 d.2.1 d.2.2⟩
theorem qav_ok(n:Nat):bE Tryd.prog 54 (qav_E n):=
 bE.bS n zz Tryd.f54 {} [] (.k (qbn_ok n) (.k (qf_ok n) .e)) .e (by kernel_rfl) (by kernel_rfl) λ_=>by kernel_rfl
def qk_E(n:Nat):aE:=⟨(SN [0,1] (u2 hL (.fn 54 .nil .nil)) .nil),[SY [0] hT .nil],λd=>qk n d⟩
def qk_ls(n:Nat):List (Nat×aT):= [(0,⟨[SN [0,1,7,8] (u4 hL (.fn 54 .nil .nil) hA hA) .nil],[SY [4] hT .nil,SX 0 [] .nil .nil],qk_W0 n⟩)]
theorem qk_ok(n:Nat):bE Tryd.prog 86 (qk_E n):=
 bE.bS n zz Tryd.f86 {live:= [(0,[0,1,7,8])]} (qk_ls n) (.k (qav_ok n) .e) (.k (λ_=>rfl) (λ_=>by kernel_rfl) .e) (by kernel_rfl) (by kernel_rfl) λ_=>by kernel_rfl
def qb_E(n:Nat):aE:=⟨(SN [0,1] (u2 hL (.fn 54 .nil .nil)) .nil),[SY [0] hG .nil],λd=>qb n d⟩
theorem qb_ok(n:Nat):bE Tryd.prog 57 (qb_E n):=
 bE.bS n zz Tryd.f57 {} [] (.k (qk_ok n) .e) .e (by kernel_rfl) (by kernel_rfl) λ_=>by kernel_rfl
def qbh_E(n:Nat):aE:=⟨(SN [0] P1 .nil),[SY [0] hT .nil],λd=>qbh n d.1 d.2.1 d.2.2.1 d.2.2.2.1 d.2.2.2.2⟩
def qbh_ls(n:Nat):List (Nat×aT):= [(0,⟨[SN [1,18,19,20] Uz SH],[SY [2] hT SF,SX 0 [1] H5 SH],qbh_W0 n⟩)]
theorem qbh_ok(n:Nat):bE Tryd.prog 35 (qbh_E n):=
 bE.bS n zz Tryd.f35 {live:= [(0,[1,18,19,20])]} (qbh_ls n) (.k (qah_ok n) (.k (qe_ok n) (.k (qi_ok n) (.k (qb_ok n) .e)))) (.k (λ_=>rfl) (λ_=>by kernel_rfl) .e) (by kernel_rfl) (by kernel_rfl) λ_=>by kernel_rfl
def qbt_E(n:Nat):aE:=⟨(SN [0] P1 .nil),[SY [0] hG .nil],λd=>qbt n d.1 d.2.1 d.2.2.1 d.2.2.2.1 d.2.2.2.2⟩
theorem qbt_ok(n:Nat):bE Tryd.prog 37 (qbt_E n):=
 bE.bS n zz Tryd.f37 {} [] (.k (qbh_ok n) .e) .e (by kernel_rfl) (by kernel_rfl) λ_=>by kernel_rfl
def qbe_E(n:Nat):aE:=⟨(SN [0] (u1 hN) .nil),[SY [0] TO S7],λd=>qbe n d⟩
theorem qbe_ok(n:Nat):bE Tryd.prog 94 (qbe_E n):=
 bE.b n zz Tryd.f94 {boxed:= [(0,0),(2,0),(3,0),(3,2)]} [] .e .e (by kernel_rfl) (by kernel_rfl) λd=>Eq.trans (b:=Ga n d) (by kernel_rfl) (qbe_amb n d)
def qbo_E(n:Nat):aE:=⟨(SN [0] TO S7),[SY [0] U3 S7],λd=>qbo n d⟩
theorem qbo_ok(n:Nat):bE Tryd.prog 61 (qbo_E n):=
 bE.b n zz Tryd.f61 {boxed:= [(0,0)]} [] .e .e (by kernel_rfl) (by kernel_rfl) λ_=>by kernel_rfl
def qcb_E(n:Nat):aE:=⟨(SN [0] UC .nil),[SY [0] hG .nil],λd=>qcb n d.1 d.2⟩
theorem qcb_ok(n:Nat):bE Tryd.prog 90 (qcb_E n):=
 bE.bS n zz Tryd.f90 {} [] .e .e (by kernel_rfl) (by kernel_rfl) λ_=>by kernel_rfl
def qbz_E(n:Nat):aE:=⟨(SN [0,1] VH .nil),[SY [0] hG .nil],λd=>qbz n d.1.1 d.1.2 d.2.1 d.2.2⟩
theorem qbz_ok(n:Nat):bE Tryd.prog 59 (qbz_E n):=
 bE.bS n zz Tryd.f59 {} [] (.k (qcb_ok n) .e) .e (by kernel_rfl) (by kernel_rfl) λ_=>by kernel_rfl
def qbm_E(n:Nat):aE:=⟨(SN [0,1] VH .nil),[SY [0] UC .nil],λd=>qbm n d.1.1 d.1.2 d.2.1 d.2.2⟩
theorem qbm_ok(n:Nat):bE Tryd.prog 95 (qbm_E n):=
 bE.bS n zz Tryd.f95 {} [] (.k (qbz_ok n) (.k (qcb_ok n) .e)) .e (by kernel_rfl) (by kernel_rfl) λ_=>by kernel_rfl
def qn_E(n:Nat):aE:=⟨(SN [0,1,2] (u3 hS hA hN) UO),[SY [0] hG TS,SY [0] hG UO,SY [0] hG (u3 (.bcells 0 false 1 (u8 hJ hK hL hW hM hA hI (.ms 2 0))) U7 Vd),SY [0] hG Vp],λd=>qn n d.1.1 d.1.2 d.2.1 d.2.2⟩
def qn_ls(n:Nat):List (Nat×aT):= [(0,⟨[SN [0,1,7,8,50,51,52] VL Vp],[SX 0 [0,1,8] Vs Vp],qn_W0 n⟩)]
theorem qn_ok(n:Nat):bE Tryd.prog 66 (qn_E n):=
 bE.bS n zz Tryd.f66 {live:= [(0,[0,1,7,8,50,51,52])],boxed:= [(4,6),(4,7),(17,6),(17,7)],raw:= [(3,3),(3,4)],vars:= [(3,4)],tidy:= [(5,[0],[(.tmp 0,7,.tmp 0,999)]),(12,[0,1,7,8,9,10,50,51,52],[(.tmp 0,6,.tmp 1,1)]),(13,[0,1,7,8,9,11,50,51,52],[(.tmp 0,6,.tmp 1,1)]),(14,[0,1,7,9,11,50,51,52],[(.tmp 0,6,.tmp 1,1)]),(18,[0],[(.tmp 0,7,.tmp 0,999)])]} (qn_ls n) (.k (qbe_ok n) (.k (qbo_ok n) (.k (qbm_ok n) .e))) (.k (λ_=>rfl) (λ_=>by kernel_rfl) .e) (by kernel_rfl) (by kernel_rfl) λ_=>by kernel_rfl
def qbi_E(n:Nat):aE:=⟨(SN [0] (u1 hN) .nil),[SY [0] (u1 hN) .nil],λd=>qbi n d⟩
theorem qbi_ok(n:Nat):bE Tryd.prog 113 (qbi_E n):=
 bE.bS n zz Tryd.f113 {} [] .e .e (by kernel_rfl) (by kernel_rfl) λ_=>by kernel_rfl
def qbu_E(n:Nat):aE:=⟨(SN [0,1] (u2 hA hN) .nil),[SY [0] Vk .nil],λd=>qbu n d.1 d.2⟩
theorem qbu_ok(n:Nat):bE Tryd.prog 87 (qbu_E n):=
 bE.bS n zz Tryd.f87 {} [] (.k (qbi_ok n) .e) .e (by kernel_rfl) (by kernel_rfl) λ_=>by kernel_rfl
def qbf_E(n:Nat):aE:=⟨(SN [0] hT .nil),[SY [0] Vk .nil],λd=>qbf n d⟩
theorem qbf_ok(n:Nat):bE Tryd.prog 88 (qbf_E n):=
 bE.bS n zz Tryd.f88 {} [] (.k (qbi_ok n) .e) .e (by kernel_rfl) (by kernel_rfl) λ_=>by kernel_rfl
def qbb_E(n:Nat):aE:=⟨(SN [0,1] (u2 UH hA) .nil),[SY [0] UC .nil],λd=>qbb n d.1.1 d.1.2.1 d.1.2.2.1 d.1.2.2.2.1 d.1.2.2.2.2 d.2⟩
theorem qbb_ok(n:Nat):bE Tryd.prog 114 (qbb_E n):=
 bE.bS n zz Tryd.f114 {} [] .e .e (by kernel_rfl) (by kernel_rfl) λ_=>by kernel_rfl
def qbc_E(n:Nat):aE:=⟨(SN [0,1,2] VG .nil),[SY [0] (u1 (.agg (u2 hN hN))) .nil],λd=>qbc n d.1.1 d.1.2.1 d.1.2.2.1 d.1.2.2.2.1 d.1.2.2.2.2 d.2.1.1 d.2.1.2.1 d.2.1.2.2.1 d.2.1.2.2.2.1 d.2.1.2.2.2.2 d.2.2.1 d.2.2.2.1 d.2.2.2.2⟩
theorem qbc_ok(n:Nat):bE Tryd.prog 89 (qbc_E n):=
 bE.bS n zz Tryd.f89 {} [] (.k (qbi_ok n) (.k (qbb_ok n) .e)) .e (by kernel_rfl) (by kernel_rfl) λ_=>by kernel_rfl
def qcd_E(n:Nat):aE:=⟨(SN [0,1,2,3] (u4 UJ UH UD hN) .nil),[SY [0] Vk .nil],λd=>qcd n d.1.1 d.1.2.1 d.1.2.2.1 d.1.2.2.2.1 d.1.2.2.2.2 d.2.1.1 d.2.1.2.1 d.2.1.2.2.1 d.2.1.2.2.2.1 d.2.1.2.2.2.2 d.2.2.1.1 d.2.2.1.2.1 d.2.2.1.2.2 d.2.2.2⟩
theorem qcd_ok(n:Nat):bE Tryd.prog 58 (qcd_E n):=
 bE.bS n zz Tryd.f58 {} [] (.k (qbu_ok n) (.k (qbf_ok n) (.k (qbc_ok n) .e))) .e (by kernel_rfl) (by kernel_rfl) λ_=>by kernel_rfl
def qbv_E(n:Nat):aE:=⟨(SN [0,1] (u2 UD hA) .nil),[SY [0] (u1 U2) .nil],λd=>qbv n d.1.1 d.1.2.1 d.1.2.2 d.2⟩
theorem qbv_ok(n:Nat):bE Tryd.prog 60 (qbv_E n):=
 bE.bS n zz Tryd.f60 {} [] .e .e (by kernel_rfl) (by kernel_rfl) λ_=>by kernel_rfl
def qbs_E(n:Nat):aE:=⟨(SN [0,1] (u2 .nilS hA) .nil),[SY [0] U3 S7,SY [0] (u1 .nilS) .nil],λd=>qbs n d⟩
theorem qbs_ok(n:Nat):bE Tryd.prog 91 (qbs_E n):=
 bE.b n zz Tryd.f91 {boxed:= [(0,0),(1,0),(3,0),(3,1),(3,3),(3,7),(4,0),(5,0),(5,1),(5,4),(5,5),(5,6),(5,9),(6,0),(6,1)]} [] .e .e (by kernel_rfl) (by kernel_rfl) λ_=>by kernel_rfl
def qar_E(n:Nat):aE:=⟨(SN [0] (u1 hJ) .nil),[SY [0] U3 S7,SY [0] (u1 hQ) .nil],λd=>qar n d⟩
def qar_ls(n:Nat):List (Nat×aT):= [(0,⟨[SN [0,3,9,10,11] (u5 hJ hA hJ hA hA) .nil],[SX 0 [0,3] (u2 hJ hA) .nil],qar_W0 n⟩),(2,⟨[SN [6,25,26,27] (u4 (.ms 0 0) hJ hA hA) S7,SN [6,25,26,27] (u4 hF hJ hA hA) S7,SN [6,25,26,27] (u4 .nilS hJ hA hA) .nil],[SX 2 [6] U3 S7,SX 2 [6] TO S7,SX 2 [6] (u1 .nilS) .nil],qar_W2x1 n⟩)]
theorem qar_ok(n:Nat):bE Tryd.prog 62 (qar_E n):=
 bE.bS n zz Tryd.f62 {live:= [(0,[0,3,9,10,11]),(2,[6,25,26,27])],boxed:= [(2,0),(4,2),(5,0),(5,1),(5,4),(6,0),(8,1),(9,0),(9,2),(10,0),(12,2),(13,0),(13,1),(13,2),(13,3),(14,1),(15,0),(15,1)],raw:= [(9,1)]} (qar_ls n) (.k (qbs_ok n) .e) (.k (λ_=>rfl) (λ_=>by kernel_rfl) (.k (λ_=>rfl) (λs=>by rcases s with s|s|s<;>kernel_rfl) .e)) (by kernel_rfl) (by kernel_rfl) λ_=>by kernel_rfl
def qaw_E(n:Nat):aE:=⟨(SN [0] (u1 hQ) .nil),[SY [0] (u1 hQ) .nil],λd=>qaw n d⟩
theorem qaw_ok(n:Nat):bE Tryd.prog 61 (qaw_E n):=
 bE.b n zz Tryd.f61 {boxed:= [(0,0)]} [] .e .e (by kernel_rfl) (by kernel_rfl) λ_=>by kernel_rfl
def qax_E(n:Nat):aE:=⟨(SN [0] (u1 hN) .nil),[SY [0] (u1 hN) .nil],λd=>qax n d⟩
theorem qax_ok(n:Nat):bE Tryd.prog 61 (qax_E n):=
 bE.b n zz Tryd.f61 {boxed:= [(0,0)]} [] .e .e (by kernel_rfl) (by kernel_rfl) λ_=>by kernel_rfl
def qbr_E(n:Nat):aE:=⟨(SN [0,1,2,3] Vy .nil),[SY [0] (u1 (.tup (u3 hQ U2 hA))) .nil],λd=>qbr n d.1.1 d.1.2.1 d.1.2.2.1 d.1.2.2.2.1 d.1.2.2.2.2 d.2.1 d.2.2.1 d.2.2.2⟩
def qbr_ls(n:Nat):List (Nat×aT):= [(0,⟨[SN [2,3,11,12,14,55,56,57] (u8 hA hN hS hV hA hN hA hA) (u2 UF U9)],[SY [8,9,10] (u3 hQ U2 hA) (u3 UF U9 (.bcells 0 false 1 Rn)),SX 0 [2,3,11,12,14] (u5 hA hN hS hV hA) (u2 UF U9)],qbr_W0 n⟩)]
theorem qbr_ok(n:Nat):bE Tryd.prog 36 (qbr_E n):=
 bE.bS n zz Tryd.f36 {live:= [(0,[2,3,11,12,14,55,56,57])]} (qbr_ls n) (.k (qcd_ok n) (.k (qbz_ok n) (.k (qbv_ok n) (.k (qar_ok n) (.k (qaw_ok n) (.k (qax_ok n) .e)))))) (.k (λ_=>rfl) (λ_=>by kernel_rfl) .e) (by kernel_rfl) (by kernel_rfl) λ_=>by kernel_rfl
def qc_E(n:Nat):aE:=⟨(SN [0,1,2] (u3 hS hA hN) TS),[SY [0] hG (u3 (.bcells 0 false 1 (u8 hJ hK hL hW hM hA hC (.ms 2 1))) UP Vr),SY [0] hG TS,SY [0] hG TX],λd=>qc n d.1.1 d.1.2 d.2.1 d.2.2.1 d.2.2.2⟩
def qc_ls(n:Nat):List (Nat×aT):= [(0,⟨[SN [0,1,7,8,50,51,52] VL TX],[SX 0 [0,1,8] Vs TX],qc_W0 n⟩)]
theorem qc_ok(n:Nat):bE Tryd.prog 66 (qc_E n):=
 bE.bS n zz Tryd.f66 {live:= [(0,[0,1,7,8,50,51,52])],boxed:= [(4,6),(4,7),(17,6),(17,7)],raw:= [(3,3),(3,4)],vars:= [(3,4)],tidy:= [(5,[0],[(.tmp 0,7,.tmp 0,999)]),(12,[0,1,7,8,9,10,50,51,52],[(.tmp 0,6,.tmp 1,1)]),(13,[0,1,7,8,9,11,50,51,52],[(.tmp 0,6,.tmp 1,1)]),(14,[0,1,7,9,11,50,51,52],[(.tmp 0,6,.tmp 1,1)]),(18,[0],[(.tmp 0,7,.tmp 0,999)])]} (qc_ls n) (.k (qbe_ok n) (.k (qbo_ok n) (.k (qbm_ok n) .e))) (.k (λ_=>rfl) (λ_=>by kernel_rfl) .e) (by kernel_rfl) (by kernel_rfl) λ_=>by kernel_rfl
def qp_E(n:Nat):aE:=⟨(SN [0] H5 TS),[SY [0] UX TS,SY [0] UX TX],λd=>qp n d.1 d.2.1 d.2.2⟩
def qp_ls(n:Nat):List (Nat×aT):= [(0,⟨[SN [0,4,5,49,50,51] (u6 hS hA hQ U2 hA hA) TX],[SY [2,3] Rn (u3 (.bcells 0 false 1 (u8 hJ hK hL hW hM hA hI (.ms 2 2))) U7 VC),SY [2,3] Rn TX,SY [2,3] Rn (u3 (.bcells 0 false 1 (u8 hJ hK hL hW hM hA (.msw 1 2) (.ms 2 2))) (.bos 2 false (.cons .bool (.sl true (.cons (.int .i64) (.int .i64)))) .nil) VC),SX 0 [] .nil TX],qp_W0 n⟩)]
theorem qp_ok(n:Nat):bE Tryd.prog 67 (qp_E n):=
 bE.bS n zz Tryd.f67 {live:= [(0,[0,4,5,49,50,51])],tidy:= [(3,[0,4],[(.tmp 0,6,.tmp 4,1)])]} (qp_ls n) (.k (qbr_ok n) (.k (qc_ok n) .e)) (.k (λ_=>rfl) (λ_=>by kernel_rfl) .e) (by kernel_rfl) (by kernel_rfl) λ_=>by kernel_rfl
def qa_E(n:Nat):aE:=⟨(SN [0] H5 (u1 (.bcells 0 false 1 (u8 hJ hK hL hW hM hA .nilS .nilS)))),[SY [0] UX TS,SY [0] UX UO],λd=>qa n d⟩
def qa_ls(n:Nat):List (Nat×aT):= [(500,⟨[SN [0] H5 TS,SN [0] H5 UO],[SY [2,3] Rn TS,SY [2,3] Rn TX,SY [2,3] Rn UO],qa_W500x1 n⟩)]
theorem qa_ok(n:Nat):bE Tryd.prog 39 (qa_E n):=
 bE.bS n zz Tryd.f39 {live:= [(500,[0])],own:= [(1,14)]} (qa_ls n) (.k (qn_ok n) (.k (qp_ok n) .e)) (.k (λ_=>rfl) (λs=>by rcases s with s|s<;>kernel_rfl) .e) (by kernel_rfl) (by kernel_rfl) λ_=>by kernel_rfl
def qam_E(n:Nat):aE:=⟨(SN [0] P1 .nil),[SY [0] (u1 (.tup (u4 (.sl false false yG) hA hA hA))) .nil],λd=>qam n d.1 d.2.1 d.2.2.1 d.2.2.2.1 d.2.2.2.2⟩
def qam_ls(n:Nat):List (Nat×aT):= [(1,⟨[SN [1,2,23,24] (u4 hS hC hA hA) (u2 Q3 hY)],[SY [2,3,4,5] (u4 (.msw 5 0) hA hA hA) (u6 Q3 hY (.bcells 0 false 1 (u8 hJ hK hL hW hM hA hE (.ms 4 0))) UP Vd hY),SY [2,3,4,5] (u4 hH hA hA hA) (u5 Q3 hY (.bcells 0 false 1 (u8 hJ hK hL hW hM hA hE .nilS)) UP hY),SX 1 [2] (u1 hC) (u2 Q3 hY)],qam_W1 n⟩)]
theorem qam_ok(n:Nat):bE Tryd.prog 24 (qam_E n):=
 bE.bS n zz Tryd.f24 {live:= [(1,[1,2,23,24])],boxed:= [(0,1),(3,1),(5,0),(12,3),(13,6)]} (qam_ls n) (.k (qbh_ok n) (.k (qbt_ok n) (.k (qa_ok n) .e))) (.k (λ_=>rfl) (λ_=>by kernel_rfl) .e) (by kernel_rfl) (by kernel_rfl) λ_=>by kernel_rfl
def qat_E(n:Nat):aE:=⟨(SN [0,1,2,3] Vy .nil),[SY [0] UX .nil],λd=>qat n d.1.1 d.1.2.1 d.1.2.2.1 d.1.2.2.2.1 d.1.2.2.2.2 d.2.1 d.2.2.1 d.2.2.2⟩
theorem qat_ok(n:Nat):bE Tryd.prog 75 (qat_E n):=
 bE.bS n zz Tryd.f75 {} [] (.k (qcd_ok n) .e) .e (by kernel_rfl) (by kernel_rfl) λ_=>by kernel_rfl
def qbk_E(n:Nat):aE:=⟨(SN [0] (u1 UH) .nil),[SY [0] hT .nil],λd=>qbk n d.1 d.2.1 d.2.2.1 d.2.2.2.1 d.2.2.2.2⟩
theorem qbk_ok(n:Nat):bE Tryd.prog 47 (qbk_E n):=
 bE.bS n zz Tryd.f47 {} [] .e .e (by kernel_rfl) (by kernel_rfl) λ_=>by kernel_rfl
def Un(n:Nat):aE:=⟨(SN [0,1] (u2 UJ hR) .nil),[SY [0] TO (u1 MY)],λd=>Rf n d.1.1 d.1.2.1 d.1.2.2.1 d.1.2.2.2.1 d.1.2.2.2.2 d.2⟩
def SV(n:Nat):List (Nat×aT):= [(2,⟨[SN [1,2,5,6,7,8,15,16,17,27,28,29] (.cons hR (.cons hS (.cons hC (u9 hA (.ptr 2 0 0 0) hE hK hA hA hO hA hA)))) (u4 Q3 MY UF hX)],[SX 2 [1,2,5,8,15,16,17] (u7 hR hS hC hE hK hA hA) (u4 Q3 MY UF hX)],Kt n⟩),(0,⟨[SN [1,2,5,15,16,17] (u6 hR hS hC hK hA hA) (u2 Q3 MY)],[SX 0 [5] (u1 hC) (u2 Q3 MY)],FQ n⟩)]
theorem S0(n:Nat):bE Tryd.prog 45 (Un n):=
 bE.b n zz Tryd.f45 {live:= [(0,[1,2,5,15,16,17]),(2,[1,2,5,6,7,8,15,16,17,27,28,29])],boxed:= [(5,3),(14,2)],vars:= [(14,2)],own:= [(0,1),(1,0),(14,3)]} (SV n) (.k (qat_ok n) (.k (qbk_ok n) .e)) (.k (λ_=>rfl) (λ_=>by kernel_rfl) (.k (λ_=>rfl) (λ_=>by kernel_rfl) .e)) (by kernel_rfl) (by kernel_rfl) λ_=>by kernel_rfl
def qbg_E(n:Nat):aE:=⟨(SN [0] P1 .nil),[SY [0] (u1 (.tup (u2 hF hA))) (u1 MY)],λd=>qbg n d.1 d.2.1 d.2.2.1 d.2.2.2.1 d.2.2.2.2⟩
theorem qbg_ok(n:Nat):bE Tryd.prog 31 (qbg_E n):=
 bE.b n zz Tryd.f31 {raw:= [(4,2)],own:= [(0,1),(3,1)]} [] (.k (qam_ok n) (.k (S0 n) .e)) .e (by kernel_rfl) (by kernel_rfl) λ_=>by kernel_rfl
def qce_E(n:Nat):aE:=⟨(SN [0,1] (u2 UJ hA) .nil),[SY [0] hT .nil],λd=>qce n d.1.1 d.1.2.1 d.1.2.2.1 d.1.2.2.2.1 d.1.2.2.2.2 d.2⟩
theorem qce_ok(n:Nat):bE Tryd.prog 33 (qce_E n):=
 bE.bS n zz Tryd.f33 {} [] (.k (qbk_ok n) .e) .e (by kernel_rfl) (by kernel_rfl) λ_=>by kernel_rfl
def qai_E(n:Nat):aE:=⟨(SN [] .nil .nil),[SY [0] hG .nil],λd=>qai n⟩
theorem qai_ok(n:Nat):bE Tryd.prog 30 (qai_E n):=
 bE.bS n zz Tryd.f30 {} [] (.k (qbg_ok n) (.k (qce_ok n) .e)) .e (by kernel_rfl) (by kernel_rfl) λ_=>by kernel_rfl
def F7(n:Nat):aE:=⟨(SN [0] P1 .nil),[SY [0] hG .nil],λd=>nF n d.1 d.2.1 d.2.2.1 d.2.2.2.1 d.2.2.2.2⟩
def Fl(n:Nat):List (Nat×aT):= [(2,⟨[SN [1,3,5,6,7] (u5 hS hC hD hA hA) Vj],[SX 2 [1,3,5,6] (u4 hS hC hD hA) (u4 Q3 Vi MY hX)],jJ n⟩),(0,⟨[SN [1,3,5,6] (u4 hS hC hD hA) Vj],[SX 0 [1,5] (u2 hS hD) Vj],jH n⟩),(6,⟨[SN [5,8,10,11] (u4 hF hC hA hA) (u2 MY MY)],[SY [2] hG Vt,SX 6 [5,8,10] (u3 hF hC hA) (u3 MY Vv hX)],mV n⟩),(4,⟨[SN [5,8,10] (u3 hF hC hA) (u2 MY MY)],[SY [2] hG (u4 Vi Vv hX hX),SY [2] hG Vt,SX 4 [] .nil (u2 MY MY)],mZ n⟩)]
theorem Fq(n:Nat):bE Tryd.prog 14 (F7 n):=
 bE.bS n zz Tryd.f14 {live:= [(0,[1,3,5,6]),(2,[1,3,5,6,7]),(4,[5,8,10]),(6,[5,8,10,11])],boxed:= [(10,1),(10,6),(10,7)],vars:= [(10,7)],own:= [(6,0),(10,8)],tidy:= [(21,[5,8,10],[(.tmp 8,0,.tmp 10,0),(.tmp 5,0,.tmp 10,0)]),(26,[5,8,10,11],[(.tmp 8,0,.tmp 10,0),(.tmp 5,0,.tmp 10,0)])]} (Fl n) (.k (qas_ok n) (.k (qai_ok n) (.k (qbg_ok n) .e))) (.k (λ_=>rfl) (λ_=>by kernel_rfl) (.k (λ_=>rfl) (λ_=>by kernel_rfl) (.k (λ_=>rfl) (λ_=>by kernel_rfl) (.k (λ_=>rfl) (λ_=>by kernel_rfl) .e)))) (by kernel_rfl) (by kernel_rfl) λ_=>by kernel_rfl
end
end Sx
