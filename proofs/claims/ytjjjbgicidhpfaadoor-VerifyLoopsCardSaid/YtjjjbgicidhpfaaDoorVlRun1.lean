import Derived.Test.YtjjjbgicidhpfaaDoorProg
import Derived.Test.YtjjjbgicidhpfaaDoorLib35
import Derived.Test.YtjjjbgicidhpfaaDoorVlSh
open Go Go.Ab Go.Proofs
set_option linter.unusedVariables false
set_option maxRecDepth 20000
namespace Sx
noncomputable section
abbrev yA:Ty:=(.cons (.int .i64) (.cons (.int .i64) (.int .i64)))
abbrev yB:Ty:=(.sl true (.cons (.int .i64) (.int .i64)))
abbrev yC:Ty:=(.cons (.sl true (.cons (.int .i64) (.int .i64))) (.cons (.int .i64) (.cons (.int .i64) (.cons (.sl true (.cons (.int .i64) (.int .i64))) (.sl true (.cons (.int .i64) (.cons (.int .i64) (.int .i64))))))))
abbrev yD:Ty:=(.cons (.sl true (.cons (.int .i64) (.int .i64))) (.cons (.int .i64) (.int .i64)))
abbrev yE:Ty:=(.cons (.int .i64) (.int .i64))
abbrev yF:Ty:=(.sl false (.int .u8))
abbrev yG:Ty:=(.sl true (.cons .bool (.sl true (.cons (.int .i64) (.int .i64)))))
def Bn:List (String×Nat×Int×Int):= [("chrysalis/flow.number",1,1,0),("chrysalis/flow.octets",3,2,0),("chrysalis/flow.words",2,3,0),("chrysalis/flow.refs",4,7,0),("chrysalis/flow.use",0,8,0)]
def Pk:DG:= [(1,1,0),(3,2,0),(2,3,0),(4,7,0),(0,8,0)]
instance gTab:b3:=⟨λg=>cP g Pk⟩
abbrev xA:Ty:= .int .i64
abbrev xB:Ty:= .sl false (.int .u64)
abbrev xC:Ty:= .sl false (.int .u8)
abbrev xD:Ty:= .sl true (.cons xA xA)
abbrev xE:Ty:= .cons xA (.cons xA xA)
abbrev xF:Ty:= .sl true (.cons .bool xD)
abbrev xG:Ty:= .sl true (.cons xD (.cons xA xA))
abbrev xH:Ty:= .cons xA (.cons xA (.cons xA xE))
abbrev xI:Ty:= .cons xD (.cons xA (.cons xA (.cons xD (.sl true xE))))
abbrev zi:Value:= .int .i64 0
abbrev zl:Value:= .slice none 0 0
abbrev zu:Value:= .int .u64 0
abbrev zp:Value:= .pointer none
abbrev zt:Value:= .string (ByteArray.mk (List.toArray []))
def tA:TI:=⟨.int .i64,1,8,false,some xA,false,[zi]⟩
def tB:TI:=⟨.bool,1,1,false,some .bool,false,[.bool false]⟩
def tC:TI:=⟨.int .u8,1,1,false,some (.int .u8),false,[.int .u8 0]⟩
def tD:TI:=⟨.st [(0,1,2),(1,1,3),(2,1,4),(3,1,6)],4,24,true,some (.cons xA (.cons xA (.cons .bool (.int .u8)))),true,[zi,zi,.bool false,.int .u8 0]⟩
def tE:TI:=⟨.str,1,16,false,some .str,false,[zt]⟩
def tF:TI:=⟨.int .u64,1,8,false,some (.int .u64),false,[zu]⟩
def tG:TI:=⟨.st [(0,1,9),(1,1,12)],2,24,true,some (.cons .str (.int .u64)),false,[zt,zu]⟩
def tH:TI:=⟨.ptr,1,8,false,none,false,[zp]⟩
def tI:TI:=⟨.st [(0,1,17)],1,8,true,none,false,[zp]⟩
def tJ:TI:=⟨.int .i32,1,4,false,some (.int .i32),false,[.int .i32 0]⟩
def tK:TI:=⟨.sl 29,1,24,false,some (.sl false xD),false,[zl]⟩
def tL:TI:=⟨.sl 53,1,24,false,some (.sl true xI),false,[zl]⟩
def tM:TI:=⟨.sl 70,1,24,false,some xG,false,[zl]⟩
def tN:TI:=⟨.sl 57,1,24,false,some xB,false,[zl]⟩
def tO:TI:=⟨.sl 9,1,24,false,some (.sl false .str),false,[zl]⟩
def tP:TI:=⟨.st [(0,1,22),(1,1,23),(2,1,24),(3,1,25),(4,1,26)],5,120,true,some (.cons (.sl false xD) (.cons (.sl true xI) (.cons xG (.cons xB (.sl false .str))))),false,[zl,zl,zl,zl,zl]⟩
def tQ:TI:=⟨.sl 37,1,24,false,some xD,false,[zl]⟩
def tR:TI:=⟨.sl 3,1,24,false,some (.sl false xA),false,[zl]⟩
def tS:TI:=⟨.st [(0,1,3),(1,1,3)],2,16,true,some (.cons xA xA),true,[zi,zi]⟩
def tT:TI:=⟨.sl 43,1,24,false,some (.sl false xF),false,[zl]⟩
def tU:TI:=⟨.sl 45,1,24,false,some xF,false,[zl]⟩
def tV:TI:=⟨.st [(0,1,4),(1,1,29)],2,32,true,some (.cons .bool xD),false,[.bool false,zl]⟩
def tW:TI:=⟨.sl 56,1,24,false,some (.sl true xE),false,[zl]⟩
def tX:TI:=⟨.st [(0,1,29),(1,2,37),(3,1,29),(4,1,51)],5,88,true,some xI,false,[zl,zi,zi,zl,zl]⟩
def tY:TI:=⟨.st [(0,1,3),(1,1,3),(2,1,3)],3,24,true,some xE,true,[zi,zi,zi]⟩
def tZ:TI:=⟨.sl 63,1,24,false,some (.sl false (.sl true xH)),false,[zl]⟩
def Qz:TI:=⟨.sl 65,1,24,false,some (.sl true xH),false,[zl]⟩
def Qp:TI:=⟨.st [(0,1,3),(1,1,3),(2,1,3),(3,1,3),(4,1,3),(5,1,3)],6,48,true,some xH,true,[zi,zi,zi,zi,zi,zi]⟩
def Qo:TI:=⟨.st [(0,1,29),(1,2,37)],3,40,true,some (.cons xD (.cons xA xA)),false,[zl,zi,zi]⟩
def Qr:TI:=⟨.st [(0,5,28),(5,1,3),(6,1,43),(7,1,32)],8,176,true,some (.cons (.sl false xD) (.cons (.sl true xI) (.cons xG (.cons xB (.cons (.sl false .str) (.cons xA (.cons xF (.sl false xA)))))))),false,[zl,zl,zl,zl,zl,zi,zl,zl]⟩
def QE:TI:=⟨.sl 5,1,24,false,some xC,false,[zl]⟩
def Qy:TI:=⟨.st [(0,1,29),(1,1,29)],2,48,true,some (.cons xD xD),false,[zl,zl]⟩
def QD:TI:=⟨.sl 78,1,24,false,some (.sl false xC),false,[zl]⟩
def Qs:TI:=⟨.st [(0,1,78)],1,24,true,some xC,false,[zl]⟩
def QA:TI:=⟨.arr 2 3,2,16,true,none,false,[zi,zi]⟩
def Qx:TI:=⟨.st [(0,1,17),(1,1,17),(2,1,17),(3,1,9)],4,40,true,none,false,[zp,zp,zp,zt]⟩
def QB:TI:=⟨.arr 0 16,0,0,true,none,false,[]⟩
def Qt:TI:=⟨.st [(0,0,149)],0,0,true,none,false,[]⟩
def QF:TI:=⟨.int .u32,1,4,false,some (.int .u32),false,[.int .u32 0]⟩
def QC:TI:=⟨.other,1,8,false,none,false,[zp]⟩
def Pg:List (Nat×TI):= [(2,tA),(3,tA),(4,tB),(5,tC),(6,tC),(7,tD),(8,tD),(9,tE),(10,tE),(11,tE),(12,tF),(13,tG),(14,tG),(15,tH),(16,tH),(17,tH),(18,tI),(19,tI),(21,tJ),(22,tK),(23,tL),(24,tM),(25,tN),(26,tO),(27,tP),(28,tP),(29,tQ),(32,tR),(33,tA),(36,tS),(37,tS),(40,tT),(43,tU),(44,tV),(45,tV),(51,tW),(52,tX),(53,tX),(55,tY),(56,tY),(57,tF),(60,tZ),(63,Qz),(64,Qp),(65,Qp),(69,Qo),(70,Qo),(71,tH),(73,tH),(74,Qr),(75,Qr),(78,QE),(94,Qy),(95,Qy),(111,QD),(134,tH),(135,Qs),(136,Qs),(143,tF),(145,QA),(147,Qx),(148,Qx),(149,QB),(150,Qt),(151,Qt),(153,QF),(154,tC),(155,tC),(157,tH),(158,tJ),(159,tJ),(162,QC)]
def tab:TypeId->Option TI:=λt=>cP t Pg
theorem O5:bL Tryd.prog tab:=(show bL Tryd.prog (λt=>cP t Pg)from bL.of_list _ (by kernel_rfl))
theorem Kj:mQ Tryd.prog=true:=by kernel_rfl
theorem KL:Tryd.prog.follows .mixedOrders=true:=by kernel_rfl
theorem zz:Qc Tryd.prog tab:=⟨Kj,KL,O5⟩
abbrev hA:Sh:= .int .u8
abbrev hB:Sh:= .int .i64
abbrev hC:Sh:= .int .u64
abbrev hD:Sh:= .msw 1 0
abbrev hE:Sh:=u1 .bool
abbrev hF:Sh:= .msw 0 0
abbrev hG:Sh:= .msw 1 1
abbrev hH:Sh:= .sl true false yB
abbrev hI:Sh:= .sl true true yC
abbrev hJ:Sh:= .sl true true yD
abbrev hK:Sh:= .sl true false .str
abbrev hL:Sh:= .sl true true yE
abbrev hM:Sh:= .sl true true yA
abbrev hN:Sh:= .sl false true yE
abbrev hO:Sh:= .ptr 0 0 0 0
abbrev hP:Sh:=u1 hB
abbrev hQ:Sh:=u1 (.tup .nil)
abbrev hR:Sh:= .ptr 1 0 0 0
abbrev hS:Sh:= .bts 0 false false true yA
abbrev hT:Sh:= .sl true false (.int .u64)
abbrev hU:Sh:= .bts 0 false false false yG
abbrev hV:Sh:= .sl false false (.int .u8)
abbrev hW:Sh:=u1 hF
abbrev hX:Sh:=u1 (.ms 0 0)
abbrev hY:Sh:= .sl false false (.int .i64)
abbrev hZ:Sh:= .bts 0 false false false (.int .i64)
abbrev Fu:Sh:=u1 hO
abbrev Ps:Sh:= .bts 0 false false false (.int .u8)
abbrev Qw:Sh:= .bts 1 false false false (.int .i64)
abbrev Qv:Sh:= .bts 2 false false false (.int .i64)
abbrev Oc:Sh:=u1 hV
abbrev Ol:Sh:=u1 (.bts 0 false false true yE)
abbrev NV:Sh:=u2 hB hB
abbrev OX:Sh:=u1 Ps
abbrev Pl:Sh:= .agg NV
abbrev qL:Sh:=u1 (.bcells 0 false 1 hP)
abbrev Pf:Sh:= .bcells 0 false 1 NV
abbrev Om:Sh:=u1 Pl
abbrev Pt:Sh:=u1 (.tup NV)
abbrev O6:Sh:= .agg (u3 hB hB hB)
abbrev Pc:Sh:= .bos 0 false (.cons .bool (.sl true (.cons (.int .i64) (.int .i64)))) .nil
abbrev Po:Sh:= .bos 1 false (.cons .bool (.sl true (.cons (.int .i64) (.int .i64)))) .nil
abbrev Qi:Sh:= .bcells 0 false 1 (u2 hL hL)
abbrev PT:Sh:=u4 hO hI hB hB
abbrev JO:Sh:=u2 (.bcells 0 false 1 (u1 hD)) Ps
abbrev Pq:Sh:=u2 (.bcells 0 false 1 (u1 hG)) (.bts 1 false false false (.int .u8))
abbrev PL:Sh:=u1 (.tup (u2 (.agg (u2 hL hL)) .bool))
abbrev Qu:Sh:=u2 hM (.fn 49 .nil (u2 hO hR))
abbrev Pr:Sh:=u2 Pl Pl
abbrev Pa:Sh:= .agg (u5 hL hB hB hL hM)
abbrev Pu:Sh:= .bcells 0 false 1 (u5 hL hB hB hL hM)
abbrev Pj:Sh:= .agg (u5 hH hI hJ hT hK)
abbrev Qq:Sh:=u7 hO hB (.ptrI 1 1 0) .bool hL hB hB
abbrev K4:Sh:=u1 Pj
abbrev OY:Sh:= .bcells 0 false 1 (u5 hH hI hJ hT hK)
abbrev OS:Sh:=u2 (.bcells 0 false 1 (u8 hH hI hJ hT hK hB hD .nilS)) Pc
abbrev Qj:Sh:=u2 (.bcells 0 false 1 (u8 hH hI hJ hT hK hB hG .nilS)) Po
abbrev NU:Sh:=u2 OY Pu
abbrev OD:Sh:=u3 (.bcells 0 false 1 (u8 hH hI hJ hT hK hB hD (.ms 2 0))) Pc hZ
abbrev OH:Sh:=u3 (.bcells 0 false 1 (u8 hH hI hJ hT hK hB hG (.ms 2 1))) Po Qw
def qbn_E(n:Nat):aD:=⟨(SN [0,1] (u2 Pl hB) .nil),[SY [0] hE .nil],λd=>qbn n d.1.1 d.1.2 d.2⟩
theorem qbn_ok(n:Nat):bC Tryd.prog 104 (qbn_E n):=
 bC.bS n zz Tryd.f104 {} [] .e .e (by kernel_rfl) (by kernel_rfl) λ_=>by kernel_rfl
def qak_E(n:Nat):aD:=⟨(SN [0,1] (u2 Pl hO) qL),[SY [0] hE qL],λd=>qak n d.1.1 d.1.2 d.2⟩
theorem qak_ok(n:Nat):bC Tryd.prog 116 (qak_E n):=
 bC.bS n zz Tryd.f116 {} [] (.k (qbn_ok n) .e) .e (by kernel_rfl) (by kernel_rfl) λ_=>by kernel_rfl
def qae_E(n:Nat):aD:=⟨(SN [0,1] (u2 hL (.fn 116 .nil Fu)) qL),[SY [0] hP qL],λd=>qae n d.1 d.2⟩
def qae_ls(n:Nat):List (Nat×aT):= [(0,⟨[SN [0,1,7,8] (u4 hL (.fn 116 .nil Fu) hB hB) qL],[SY [4] hP qL,SX 0 [] .nil qL],qae_W0 n⟩)]
theorem qae_ok(n:Nat):bC Tryd.prog 85 (qae_E n):=
 bC.bS n zz Tryd.f85 {live:= [(0,[0,1,7,8])]} (qae_ls n) (.k (qak_ok n) .e) (.k (λ_=>rfl) (λ_=>by kernel_rfl) .e) (by kernel_rfl) (by kernel_rfl) λ_=>by kernel_rfl
def qs_E(n:Nat):aD:=⟨(SN [0,1] (u2 hL (.fn 116 .nil Fu)) qL),[SY [0] hE qL],λd=>qs n d.1 d.2⟩
theorem qs_ok(n:Nat):bC Tryd.prog 52 (qs_E n):=
 bC.bS n zz Tryd.f52 {} [] (.k (qae_ok n) .e) .e (by kernel_rfl) (by kernel_rfl) λ_=>by kernel_rfl
def qay_E(n:Nat):aD:=⟨(SN [0,1,2] (u3 hL hB hB) .nil),[SY [0] hE .nil],λd=>qay n d.1 d.2.1 d.2.2⟩
theorem qay_ok(n:Nat):bC Tryd.prog 99 (qay_E n):=
 bC.bS n zz Tryd.f99 {} [] (.k (qs_ok n) .e) .e (by kernel_rfl) (by kernel_rfl) λ_=>by kernel_rfl
def qaq_E(n:Nat):aD:=⟨(SN [0,1] (u2 hL hO) qL),[SY [0] hE qL],λd=>qaq n d.1 d.2⟩
theorem qaq_ok(n:Nat):bC Tryd.prog 98 (qaq_E n):=
 bC.bS n zz Tryd.f98 {} [] (.k (qay_ok n) .e) .e (by kernel_rfl) (by kernel_rfl) λ_=>by kernel_rfl
def qx_E(n:Nat):aD:=⟨(SN [0,1] (u2 hH (.fn 98 .nil Fu)) qL),[SY [0] hP qL],λd=>qx n d.1 d.2⟩
def qx_ls(n:Nat):List (Nat×aT):= [(0,⟨[SN [0,1,7,8] (u4 hH (.fn 98 .nil Fu) hB hB) qL],[SY [4] hP qL,SX 0 [] .nil qL],qx_W0 n⟩)]
theorem qx_ok(n:Nat):bC Tryd.prog 115 (qx_E n):=
 bC.bS n zz Tryd.f115 {live:= [(0,[0,1,7,8])]} (qx_ls n) (.k (qaq_ok n) .e) (.k (λ_=>rfl) (λ_=>by kernel_rfl) .e) (by kernel_rfl) (by kernel_rfl) λ_=>by kernel_rfl
def qh_E(n:Nat):aD:=⟨(SN [0,1] (u2 hH (.fn 98 .nil Fu)) qL),[SY [0] hE qL],λd=>qh n d.1 d.2⟩
theorem qh_ok(n:Nat):bC Tryd.prog 97 (qh_E n):=
 bC.bS n zz Tryd.f97 {} [] (.k (qx_ok n) .e) .e (by kernel_rfl) (by kernel_rfl) λ_=>by kernel_rfl
def qbl_E(n:Nat):aD:=⟨(SN [0] hP .nil),[SY [0] hP .nil],λd=>qbl n d⟩
theorem qbl_ok(n:Nat):bC Tryd.prog 120 (qbl_E n):=
 bC.bS n zz Tryd.f120 {} [] .e .e (by kernel_rfl) (by kernel_rfl) λ_=>by kernel_rfl
def qca_E(n:Nat):aD:=⟨(SN [0,1] (u2 hB .bool) .nil),[SY [0] hE .nil],λd=>qca n d.1 d.2⟩
theorem qca_ok(n:Nat):bC Tryd.prog 121 (qca_E n):=
 bC.bS n zz Tryd.f121 {} [] .e .e (by kernel_rfl) (by kernel_rfl) λ_=>by kernel_rfl
def qcc_E(n:Nat):aD:=⟨(SN [0] (u1 hC) .nil),[SY [0] hW OX],λd=>qcc n d⟩
def qcc_ls(n:Nat):List (Nat×aT):= [(0,⟨[SN [0,3] (u2 hC hF) OX],[SX 0 [0,3] (u2 hC hF) OX],qcc_W0 n⟩)]
theorem qcc_ok(n:Nat):bC Tryd.prog 107 (qcc_E n):=
 bC.b n zz Tryd.f107 {live:= [(0,[0,3])],boxed:= [(0,0),(1,0),(4,5),(5,4)]} (qcc_ls n) .e (.k (λ_=>rfl) (λ_=>by kernel_rfl) .e) (by kernel_rfl) (by kernel_rfl) λ_=>by kernel_rfl
def qbw_E(n:Nat):aD:=⟨(SN [0] (u1 O6) .nil),[SY [0] Oc .nil],λd=>qbw n d.1 d.2.1 d.2.2⟩
def qbw_ls(n:Nat):List (Nat×aT):= [(0,⟨[SN [4,39,40,41] (u4 hF (.ms 1 0) hB hB) (u2 Ps Pf)],[SX 0 [4] hW (u2 Ps Pf)],qbw_W0 n⟩)]
theorem qbw_ok(n:Nat):bC Tryd.prog 111 (qbw_E n):=
 bC.bS n zz Tryd.f111 {live:= [(0,[4,39,40,41])],boxed:= [(4,3),(9,4)]} (qbw_ls n) (.k (qbl_ok n) (.k (qca_ok n) (.k (qcc_ok n) .e))) (.k (λ_=>rfl) (λ_=>by kernel_rfl) .e) (by kernel_rfl) (by kernel_rfl) λ_=>by kernel_rfl
def qz_E(n:Nat):aD:=⟨(SN [0] (u1 O6) .nil),[SY [0] hE .nil],λd=>qz n d.1 d.2.1 d.2.2⟩
theorem qz_ok(n:Nat):bC Tryd.prog 118 (qz_E n):=
 bC.bS n zz Tryd.f118 {} [] (.k (qbw_ok n) .e) .e (by kernel_rfl) (by kernel_rfl) λ_=>by kernel_rfl
def qaa_E(n:Nat):aD:=⟨(SN [0,1] (u2 hM (.fn 118 .nil .nil)) .nil),[SY [0] hP .nil],λd=>qaa n d⟩
def qaa_ls(n:Nat):List (Nat×aT):= [(0,⟨[SN [0,1,7,8] (u4 hM (.fn 118 .nil .nil) hB hB) .nil],[SY [4] hP .nil,SX 0 [] .nil .nil],qaa_W0 n⟩)]
theorem qaa_ok(n:Nat):bC Tryd.prog 84 (qaa_E n):=
 bC.bS n zz Tryd.f84 {live:= [(0,[0,1,7,8])]} (qaa_ls n) (.k (qz_ok n) .e) (.k (λ_=>rfl) (λ_=>by kernel_rfl) .e) (by kernel_rfl) (by kernel_rfl) λ_=>by kernel_rfl
def qo_E(n:Nat):aD:=⟨(SN [0,1] (u2 hM (.fn 118 .nil .nil)) .nil),[SY [0] hE .nil],λd=>qo n d⟩
theorem qo_ok(n:Nat):bC Tryd.prog 51 (qo_E n):=
 bC.bS n zz Tryd.f51 {} [] (.k (qaa_ok n) .e) .e (by kernel_rfl) (by kernel_rfl) λ_=>by kernel_rfl
def qac_E(n:Nat):aD:=⟨(SN [0,1] (u2 Pa hB) .nil),[SY [0] hE .nil],λd=>qac n d.1.1 d.1.2.1 d.1.2.2.1 d.1.2.2.2.1 d.1.2.2.2.2 d.2⟩
theorem qac_ok(n:Nat):bC Tryd.prog 102 (qac_E n):=
 bC.bS n zz Tryd.f102 {} [] (.k (qay_ok n) (.k (qbn_ok n) (.k (qo_ok n) .e))) .e (by kernel_rfl) (by kernel_rfl) λ_=>by kernel_rfl
def qal_E(n:Nat):aD:=⟨(SN [0,1] (u2 Pa hO) qL),[SY [0] hE qL],λd=>qal n d.1.1 d.1.2.1 d.1.2.2.1 d.1.2.2.2.1 d.1.2.2.2.2 d.2⟩
theorem qal_ok(n:Nat):bC Tryd.prog 101 (qal_E n):=
 bC.bS n zz Tryd.f101 {} [] (.k (qac_ok n) .e) .e (by kernel_rfl) (by kernel_rfl) λ_=>by kernel_rfl
def qad_E(n:Nat):aD:=⟨(SN [0,1] (u2 hI (.fn 101 .nil Fu)) qL),[SY [0] hP qL],λd=>qad n d.1 d.2⟩
def qad_ls(n:Nat):List (Nat×aT):= [(0,⟨[SN [0,1,7,8] (u4 hI (.fn 101 .nil Fu) hB hB) qL],[SY [4] hP qL,SX 0 [] .nil qL],qad_W0 n⟩)]
theorem qad_ok(n:Nat):bC Tryd.prog 117 (qad_E n):=
 bC.bS n zz Tryd.f117 {live:= [(0,[0,1,7,8])]} (qad_ls n) (.k (qal_ok n) .e) (.k (λ_=>rfl) (λ_=>by kernel_rfl) .e) (by kernel_rfl) (by kernel_rfl) λ_=>by kernel_rfl
def qq_E(n:Nat):aD:=⟨(SN [0,1] (u2 hI (.fn 101 .nil Fu)) qL),[SY [0] hE qL],λd=>qq n d.1 d.2⟩
theorem qq_ok(n:Nat):bC Tryd.prog 100 (qq_E n):=
 bC.bS n zz Tryd.f100 {} [] (.k (qad_ok n) .e) .e (by kernel_rfl) (by kernel_rfl) λ_=>by kernel_rfl
def qap_E(n:Nat):aD:=⟨(SN [0,1] (u2 (.agg (u3 hL hB hB)) hO) qL),[SY [0] hE qL],λd=>qap n d.1.1 d.1.2.1 d.1.2.2 d.2⟩
theorem qap_ok(n:Nat):bC Tryd.prog 103 (qap_E n):=
 bC.bS n zz Tryd.f103 {} [] (.k (qay_ok n) (.k (qbn_ok n) .e)) .e (by kernel_rfl) (by kernel_rfl) λ_=>by kernel_rfl
def qu_E(n:Nat):aD:=⟨(SN [0,1] (u2 hJ (.fn 103 .nil Fu)) qL),[SY [0] hP qL],λd=>qu n d.1 d.2⟩
def qu_ls(n:Nat):List (Nat×aT):= [(0,⟨[SN [0,1,7,8] (u4 hJ (.fn 103 .nil Fu) hB hB) qL],[SY [4] hP qL,SX 0 [] .nil qL],qu_W0 n⟩)]
theorem qu_ok(n:Nat):bC Tryd.prog 86 (qu_E n):=
 bC.bS n zz Tryd.f86 {live:= [(0,[0,1,7,8])]} (qu_ls n) (.k (qap_ok n) .e) (.k (λ_=>rfl) (λ_=>by kernel_rfl) .e) (by kernel_rfl) (by kernel_rfl) λ_=>by kernel_rfl
def qi_E(n:Nat):aD:=⟨(SN [0,1] (u2 hJ (.fn 103 .nil Fu)) qL),[SY [0] hE qL],λd=>qi n d.1 d.2⟩
theorem qi_ok(n:Nat):bC Tryd.prog 57 (qi_E n):=
 bC.bS n zz Tryd.f57 {} [] (.k (qu_ok n) .e) .e (by kernel_rfl) (by kernel_rfl) λ_=>by kernel_rfl
def qao_E(n:Nat):aD:=⟨(SN [0] (u1 .str) .nil),[SY [0] hE .nil],λd=>qao n d⟩
theorem qao_ok(n:Nat):bC Tryd.prog 106 (qao_E n):=
 bC.bS n zz Tryd.f106 {} [] .e .e (by kernel_rfl) (by kernel_rfl) λ_=>by kernel_rfl
def qy_E(n:Nat):aD:=⟨(SN [0,1] (u2 hK (.fn 106 .nil .nil)) .nil),[SY [0] hP .nil],λd=>qy n d⟩
def qy_ls(n:Nat):List (Nat×aT):= [(0,⟨[SN [0,1,7,8] (u4 hK (.fn 106 .nil .nil) hB hB) .nil],[SY [4] hP .nil,SX 0 [] .nil .nil],qy_W0 n⟩)]
theorem qy_ok(n:Nat):bC Tryd.prog 119 (qy_E n):=
 bC.bS n zz Tryd.f119 {live:= [(0,[0,1,7,8])]} (qy_ls n) (.k (qao_ok n) .e) (.k (λ_=>rfl) (λ_=>by kernel_rfl) .e) (by kernel_rfl) (by kernel_rfl) λ_=>by kernel_rfl
def qf_E(n:Nat):aD:=⟨(SN [0,1] (u2 hK (.fn 106 .nil .nil)) .nil),[SY [0] hE .nil],λd=>qf n d⟩
theorem qf_ok(n:Nat):bC Tryd.prog 105 (qf_E n):=
 bC.bS n zz Tryd.f105 {} [] (.k (qy_ok n) .e) .e (by kernel_rfl) (by kernel_rfl) λ_=>by kernel_rfl
def qav_E(n:Nat):aD:=⟨(SN [0] K4 .nil),[SY [0] hE .nil],λd=>qav n d.1 d.2.1 d.2.2.1 d.2.2.2.1 d.2.2.2.2⟩
theorem qav_ok(n:Nat):bC Tryd.prog 76 (qav_E n):=
 bC.bS n zz Tryd.f76 {} [] (.k (qh_ok n) (.k (qq_ok n) (.k (qi_ok n) (.k (qf_ok n) .e)))) .e (by kernel_rfl) (by kernel_rfl) λ_=>by kernel_rfl
def qm_E(n:Nat):aD:=⟨(SN [0,1] (u2 hO hB) (u1 (.bcells 0 false 1 (u1 .nilS)))),[SY [0] hQ JO],λd=>qm n d⟩
theorem qm_ok(n:Nat):bC Tryd.prog 108 (qm_E n):=
 bC.bS n zz Tryd.f108 {boxed:= [(0,8)]} [] (.k (qcc_ok n) .e) .e (by kernel_rfl) (by kernel_rfl) λ_=>by kernel_rfl
def qd_E(n:Nat):aD:=⟨(SN [0,1] (u2 hO hB) JO),[SY [0] hQ Pq],λd=>qd n d.1 d.2⟩
theorem qd_ok(n:Nat):bC Tryd.prog 108 (qd_E n):=
 bC.bS n zz Tryd.f108 {boxed:= [(0,8)]} [] (.k (qcc_ok n) .e) .e (by kernel_rfl) (by kernel_rfl) λ_=>by kernel_rfl
def qbz_E(n:Nat):aD:=⟨(SN [0] Om .nil),[SY [0] Oc .nil],λd=>qbz n d.1 d.2⟩
theorem qbz_ok(n:Nat):bC Tryd.prog 110 (qbz_E n):=
 bC.bS n zz Tryd.f110 {raw:= [(1,4)]} [] (.k (qcc_ok n) .e) .e (by kernel_rfl) (by kernel_rfl) λ_=>by kernel_rfl
def ql_E(n:Nat):aD:=⟨(SN [0,1] (u2 hO hL) JO),[SY [0] hQ Pq],λd=>ql n d.1 d.2⟩
def ql_ls(n:Nat):List (Nat×aT):= [(0,⟨[SN [0,10,11,12] (u4 hO hL hB hB) Pq],[SX 0 [] .nil Pq],ql_W0 n⟩)]
theorem ql_ok(n:Nat):bC Tryd.prog 109 (ql_E n):=
 bC.bS n zz Tryd.f109 {live:= [(0,[0,10,11,12])],boxed:= [(4,7)]} (ql_ls n) (.k (qd_ok n) (.k (qbz_ok n) .e)) (.k (λ_=>rfl) (λ_=>by kernel_rfl) .e) (by kernel_rfl) (by kernel_rfl) λ_=>by kernel_rfl
def qab_E(n:Nat):aD:=⟨(SN [0] K4 .nil),[SY [0] Oc .nil],λd=>qab n d.1 d.2.1 d.2.2.1 d.2.2.2.1 d.2.2.2.2⟩
def qab_ls(n:Nat):List (Nat×aT):= [(0,⟨[SN [3,14,15,16] (u4 hO hH hB hB) JO],[SX 0 [3] Fu JO],qab_W0 n⟩)]
theorem qab_ok(n:Nat):bC Tryd.prog 78 (qab_E n):=
 bC.bS n zz Tryd.f78 {live:= [(0,[3,14,15,16])]} (qab_ls n) (.k (qm_ok n) (.k (ql_ok n) .e)) (.k (λ_=>rfl) (λ_=>by kernel_rfl) .e) (by kernel_rfl) (by kernel_rfl) λ_=>by kernel_rfl
def qw_E(n:Nat):aD:=⟨(SN [0] K4 .nil),[SY [0] Oc .nil],λd=>qw n d.1 d.2.1 d.2.2.1 d.2.2.2.1 d.2.2.2.2⟩
def qw_ls(n:Nat):List (Nat×aT):= [(2,⟨[SN [3,16,17,18,47,48,49] (u7 hO hI hB hB hM hB hB) JO],[SX 2 [3,16,17,18] PT JO],qw_W2 n⟩),(0,⟨[SN [3,16,17,18] PT JO],[SX 0 [3] Fu JO],qw_W0 n⟩)]
theorem qw_ok(n:Nat):bC Tryd.prog 79 (qw_E n):=
 bC.bS n zz Tryd.f79 {live:= [(0,[3,16,17,18]),(2,[3,16,17,18,47,48,49])],boxed:= [(7,8),(13,7)]} (qw_ls n) (.k (qm_ok n) (.k (qd_ok n) (.k (ql_ok n) (.k (qbz_ok n) (.k (qbw_ok n) .e))))) (.k (λ_=>rfl) (λ_=>by kernel_rfl) (.k (λ_=>rfl) (λ_=>by kernel_rfl) .e)) (by kernel_rfl) (by kernel_rfl) λ_=>by kernel_rfl
def qag_E(n:Nat):aD:=⟨(SN [0] K4 .nil),[SY [0] Oc .nil],λd=>qag n d.1 d.2.1 d.2.2.1 d.2.2.2.1 d.2.2.2.2⟩
def qag_ls(n:Nat):List (Nat×aT):= [(0,⟨[SN [3,14,15,16] (u4 hO hJ hB hB) JO],[SX 0 [3] Fu JO],qag_W0 n⟩)]
theorem qag_ok(n:Nat):bC Tryd.prog 80 (qag_E n):=
 bC.bS n zz Tryd.f80 {live:= [(0,[3,14,15,16])],boxed:= [(7,8)]} (qag_ls n) (.k (qm_ok n) (.k (ql_ok n) (.k (qbz_ok n) .e))) (.k (λ_=>rfl) (λ_=>by kernel_rfl) .e) (by kernel_rfl) (by kernel_rfl) λ_=>by kernel_rfl
def qbs_E(n:Nat):aD:=⟨(SN [0,1] (u2 hC hB) .nil),[SY [0] Oc .nil],λd=>qbs n d.1 d.2⟩
def qbs_ls(n:Nat):List (Nat×aT):= [(0,⟨[SN [0,5,9,10] (u4 hC hF hB hB) OX],[SX 0 [5] hW OX],qbs_W0 n⟩)]
theorem qbs_ok(n:Nat):bC Tryd.prog 112 (qbs_E n):=
 bC.bS n zz Tryd.f112 {live:= [(0,[0,5,9,10])],boxed:= [(1,0),(5,7)]} (qbs_ls n) .e (.k (λ_=>rfl) (λ_=>by kernel_rfl) .e) (by kernel_rfl) (by kernel_rfl) λ_=>by kernel_rfl
def qaf_E(n:Nat):aD:=⟨(SN [0] K4 .nil),[SY [0] Oc .nil],λd=>qaf n d.1 d.2.1 d.2.2.1 d.2.2.2.1 d.2.2.2.2⟩
def qaf_ls(n:Nat):List (Nat×aT):= [(0,⟨[SN [3,14,15,16] (u4 hO hT hB hB) JO],[SX 0 [3] Fu JO],qaf_W0 n⟩)]
theorem qaf_ok(n:Nat):bC Tryd.prog 81 (qaf_E n):=
 bC.bS n zz Tryd.f81 {live:= [(0,[3,14,15,16])],boxed:= [(6,7)]} (qaf_ls n) (.k (qm_ok n) (.k (qbs_ok n) .e)) (.k (λ_=>rfl) (λ_=>by kernel_rfl) .e) (by kernel_rfl) (by kernel_rfl) λ_=>by kernel_rfl
def qaj_E(n:Nat):aD:=⟨(SN [0] K4 .nil),[SY [0] Oc .nil],λd=>qaj n d.1 d.2.1 d.2.2.1 d.2.2.2.1 d.2.2.2.2⟩
def qaj_ls(n:Nat):List (Nat×aT):= [(0,⟨[SN [3,14,15,16] (u4 hO hK hB hB) JO],[SX 0 [3] Fu JO],qaj_W0 n⟩)]
theorem qaj_ok(n:Nat):bC Tryd.prog 82 (qaj_E n):=
 bC.bS n zz Tryd.f82 {live:= [(0,[3,14,15,16])],boxed:= [(7,6)]} (qaj_ls n) (.k (qm_ok n) (.k (qd_ok n) .e)) (.k (λ_=>rfl) (λ_=>by kernel_rfl) .e) (by kernel_rfl) (by kernel_rfl) λ_=>by kernel_rfl
def qbp_E(n:Nat):aD:=⟨(SN [0] (u1 (.sl true false yF)) .nil),[SY [0] Oc .nil],λd=>qbp n d⟩
def qbp_ls(n:Nat):List (Nat×aT):= [(0,⟨[SN [3,10,11,12] (u4 hF (.sl true false yF) hB hB) OX],[SX 0 [3] hW OX],qbp_W0 n⟩)]
theorem qbp_ok(n:Nat):bC Tryd.prog 77 (qbp_E n):=
 bC.bS n zz Tryd.f77 {live:= [(0,[3,10,11,12])],boxed:= [(5,5),(6,2)],raw:= [(1,3)]} (qbp_ls n) (.k (qcc_ok n) .e) (.k (λ_=>rfl) (λ_=>by kernel_rfl) .e) (by kernel_rfl) (by kernel_rfl) λ_=>by kernel_rfl
def qai_E(n:Nat):aD:=⟨(SN [0] K4 .nil),[SY [0] (u1 (.tup (u2 hV hB))) .nil],λd=>qai n d.1 d.2.1 d.2.2.1 d.2.2.2.1 d.2.2.2.2⟩
theorem qai_ok(n:Nat):bC Tryd.prog 48 (qai_E n):=
 bC.bS n zz Tryd.f48 {} [] (.k (qav_ok n) (.k (qab_ok n) (.k (qw_ok n) (.k (qag_ok n) (.k (qaf_ok n) (.k (qaj_ok n) (.k (qbp_ok n) .e))))))) .e (by kernel_rfl) (by kernel_rfl) λ_=>by kernel_rfl
def qbg_E(n:Nat):aD:=⟨(SN [0,1] NV .nil),[SY [0] hE .nil],λd=>qbg n d.1 d.2⟩
theorem qbg_ok(n:Nat):bC Tryd.prog 83 (qbg_E n):=
 bC.bS n zz Tryd.f83 {} [] .e .e (by kernel_rfl) (by kernel_rfl) λ_=>by kernel_rfl
def qbb_E(n:Nat):aD:=⟨(SN [0,1,2] (u3 Pj Pa O6) .nil),[SY [0] hE .nil],λd=>qbb n d.1.1 d.1.2.1 d.1.2.2.1 d.1.2.2.2.1 d.1.2.2.2.2 d.2.1.1 d.2.1.2.1 d.2.1.2.2.1 d.2.1.2.2.2.1 d.2.1.2.2.2.2 d.2.2.1 d.2.2.2.1 d.2.2.2.2⟩
theorem qbb_ok(n:Nat):bC Tryd.prog 50 (qbb_E n):=
 bC.bS n zz Tryd.f50 {} [] (.k (qbg_ok n) .e) .e (by kernel_rfl) (by kernel_rfl) λ_=>by kernel_rfl
def qaz_E(n:Nat):aD:=⟨(SN [0,1,2] (u3 O6 hO hR) NU),[SY [0] hE NU],λd=>qaz n d.1.1 d.1.2.1 d.1.2.2 d.2.1.1 d.2.1.2.1 d.2.1.2.2.1 d.2.1.2.2.2.1 d.2.1.2.2.2.2 d.2.2.1 d.2.2.2.1 d.2.2.2.2.1 d.2.2.2.2.2.1 d.2.2.2.2.2.2⟩
theorem qaz_ok(n:Nat):bC Tryd.prog 49 (qaz_E n):=
 bC.bS n zz Tryd.f49 {} [] (.k (qbb_ok n) .e) .e (by kernel_rfl) (by kernel_rfl) λ_=>by kernel_rfl
def qr_E(n:Nat):aD:=⟨(SN [0,1] Qu NU),[SY [0] hP NU],λd=>qr n d.1 d.2.1.1 d.2.1.2.1 d.2.1.2.2.1 d.2.1.2.2.2.1 d.2.1.2.2.2.2 d.2.2.1 d.2.2.2.1 d.2.2.2.2.1 d.2.2.2.2.2.1 d.2.2.2.2.2.2⟩
def qr_ls(n:Nat):List (Nat×aT):= [(0,⟨[SN [0,1,7,8] (u4 hM (.fn 49 .nil (u2 hO hR)) hB hB) NU],[SY [4] hP NU,SX 0 [] .nil NU],qr_W0 n⟩)]
theorem qr_ok(n:Nat):bC Tryd.prog 84 (qr_E n):=
 bC.bS n zz Tryd.f84 {live:= [(0,[0,1,7,8])]} (qr_ls n) (.k (qaz_ok n) .e) (.k (λ_=>rfl) (λ_=>by kernel_rfl) .e) (by kernel_rfl) (by kernel_rfl) λ_=>by kernel_rfl
def qc_E(n:Nat):aD:=⟨(SN [0,1] Qu NU),[SY [0] hE NU],λd=>qc n d.1 d.2.1.1 d.2.1.2.1 d.2.1.2.2.1 d.2.1.2.2.2.1 d.2.1.2.2.2.2 d.2.2.1 d.2.2.2.1 d.2.2.2.2.1 d.2.2.2.2.2.1 d.2.2.2.2.2.2⟩
theorem qc_ok(n:Nat):bC Tryd.prog 51 (qc_E n):=
 bC.bS n zz Tryd.f51 {} [] (.k (qr_ok n) .e) .e (by kernel_rfl) (by kernel_rfl) λ_=>by kernel_rfl
def qaw_E(n:Nat):aD:=⟨(SN [0] Om .nil),[SY [0] hE .nil],λd=>qaw n d.1 d.2⟩
theorem qaw_ok(n:Nat):bC Tryd.prog 53 (qaw_E n):=
 bC.bS n zz Tryd.f53 {} [] .e .e (by kernel_rfl) (by kernel_rfl) λ_=>by kernel_rfl
def qt_E(n:Nat):aD:=⟨(SN [0,1] (u2 hL (.fn 53 .nil .nil)) .nil),[SY [0] hP .nil],λd=>qt n d⟩
def qt_ls(n:Nat):List (Nat×aT):= [(0,⟨[SN [0,1,7,8] (u4 hL (.fn 53 .nil .nil) hB hB) .nil],[SY [4] hP .nil,SX 0 [] .nil .nil],qt_W0 n⟩)]
theorem qt_ok(n:Nat):bC Tryd.prog 85 (qt_E n):=
 bC.bS n zz Tryd.f85 {live:= [(0,[0,1,7,8])]} (qt_ls n) (.k (qaw_ok n) .e) (.k (λ_=>rfl) (λ_=>by kernel_rfl) .e) (by kernel_rfl) (by kernel_rfl) λ_=>by kernel_rfl
def qj_E(n:Nat):aD:=⟨(SN [0,1] (u2 hL (.fn 53 .nil .nil)) .nil),[SY [0] hE .nil],λd=>qj n d⟩
theorem qj_ok(n:Nat):bC Tryd.prog 52 (qj_E n):=
 bC.bS n zz Tryd.f52 {} [] (.k (qt_ok n) .e) .e (by kernel_rfl) (by kernel_rfl) λ_=>by kernel_rfl
def qbi_E(n:Nat):aD:=⟨(SN [0] Om .nil),[SY [0] hE .nil],λd=>qbi n d.1 d.2⟩
theorem qbi_ok(n:Nat):bC Tryd.prog 55 (qbi_E n):=
 bC.bS n zz Tryd.f55 {} [] .e .e (by kernel_rfl) (by kernel_rfl) λ_=>by kernel_rfl
def qam_E(n:Nat):aD:=⟨(SN [0] Om .nil),[SY [0] hE .nil],λd=>qam n d.1 d.2⟩
theorem qam_ok(n:Nat):bC Tryd.prog 56 (qam_E n):=
 bC.bS n zz Tryd.f56 {} [] (.k (qbi_ok n) .e) .e (by kernel_rfl) (by kernel_rfl) λ_=>by kernel_rfl
def qv_E(n:Nat):aD:=⟨(SN [0,1] (u2 hL (.fn 56 .nil .nil)) .nil),[SY [0] hP .nil],λd=>qv n d⟩
def qv_ls(n:Nat):List (Nat×aT):= [(0,⟨[SN [0,1,7,8] (u4 hL (.fn 56 .nil .nil) hB hB) .nil],[SY [4] hP .nil,SX 0 [] .nil .nil],qv_W0 n⟩)]
theorem qv_ok(n:Nat):bC Tryd.prog 85 (qv_E n):=
 bC.bS n zz Tryd.f85 {live:= [(0,[0,1,7,8])]} (qv_ls n) (.k (qam_ok n) .e) (.k (λ_=>rfl) (λ_=>by kernel_rfl) .e) (by kernel_rfl) (by kernel_rfl) λ_=>by kernel_rfl
def qg_E(n:Nat):aD:=⟨(SN [0,1] (u2 hL (.fn 56 .nil .nil)) .nil),[SY [0] hE .nil],λd=>qg n d⟩
theorem qg_ok(n:Nat):bC Tryd.prog 52 (qg_E n):=
 bC.bS n zz Tryd.f52 {} [] (.k (qv_ok n) .e) .e (by kernel_rfl) (by kernel_rfl) λ_=>by kernel_rfl
def qau_E(n:Nat):aD:=⟨(SN [0] (u1 (.agg (u3 hL hB hB))) .nil),[SY [0] hE .nil],λd=>qau n d.1 d.2.1 d.2.2⟩
theorem qau_ok(n:Nat):bC Tryd.prog 54 (qau_E n):=
 bC.bS n zz Tryd.f54 {} [] (.k (qbi_ok n) (.k (qg_ok n) .e)) .e (by kernel_rfl) (by kernel_rfl) λ_=>by kernel_rfl
def qk_E(n:Nat):aD:=⟨(SN [0,1] (u2 hJ (.fn 54 .nil .nil)) .nil),[SY [0] hP .nil],λd=>qk n d⟩
def qk_ls(n:Nat):List (Nat×aT):= [(0,⟨[SN [0,1,7,8] (u4 hJ (.fn 54 .nil .nil) hB hB) .nil],[SY [4] hP .nil,SX 0 [] .nil .nil],qk_W0 n⟩)]
theorem qk_ok(n:Nat):bC Tryd.prog 86 (qk_E n):=
 bC.bS n zz Tryd.f86 {live:= [(0,[0,1,7,8])]} (qk_ls n) (.k (qau_ok n) .e) (.k (λ_=>rfl) (λ_=>by kernel_rfl) .e) (by kernel_rfl) (by kernel_rfl) λ_=>by kernel_rfl
def qb_E(n:Nat):aD:=⟨(SN [0,1] (u2 hJ (.fn 54 .nil .nil)) .nil),[SY [0] hE .nil],λd=>qb n d⟩
theorem qb_ok(n:Nat):bC Tryd.prog 57 (qb_E n):=
 bC.bS n zz Tryd.f57 {} [] (.k (qk_ok n) .e) .e (by kernel_rfl) (by kernel_rfl) λ_=>by kernel_rfl
def qbh_E(n:Nat):aD:=⟨(SN [0] K4 .nil),[SY [0] hP .nil],λd=>qbh n d.1 d.2.1 d.2.2.1 d.2.2.2.1 d.2.2.2.2⟩
def qbh_ls(n:Nat):List (Nat×aT):= [(0,⟨[SN [1,18,19,20] PT (u1 OY)],[SY [2] hP NU,SX 0 [1] Fu (u1 OY)],qbh_W0 n⟩)]
theorem qbh_ok(n:Nat):bC Tryd.prog 35 (qbh_E n):=
 bC.bS n zz Tryd.f35 {live:= [(0,[1,18,19,20])]} (qbh_ls n) (.k (qai_ok n) (.k (qc_ok n) (.k (qj_ok n) (.k (qb_ok n) .e)))) (.k (λ_=>rfl) (λ_=>by kernel_rfl) .e) (by kernel_rfl) (by kernel_rfl) λ_=>by kernel_rfl
def qbt_E(n:Nat):aD:=⟨(SN [0] K4 .nil),[SY [0] hE .nil],λd=>qbt n d.1 d.2.1 d.2.2.1 d.2.2.2.1 d.2.2.2.2⟩
theorem qbt_ok(n:Nat):bC Tryd.prog 37 (qbt_E n):=
 bC.bS n zz Tryd.f37 {} [] (.k (qbh_ok n) .e) .e (by kernel_rfl) (by kernel_rfl) λ_=>by kernel_rfl
def qbc_E(n:Nat):aD:=⟨(SN [0] (u1 hL) .nil),[SY [0] hW Ol],λd=>qbc n d⟩
theorem qbc_ok(n:Nat):bC Tryd.prog 94 (qbc_E n):=
 bC.b n zz Tryd.f94 {boxed:= [(0,0),(2,0),(3,0),(3,2)]} [] .e .e (by kernel_rfl) (by kernel_rfl) λd=>Eq.trans (b:=Eb n d) (by kernel_rfl) (qbc_amb n d)
def qbv_E(n:Nat):aD:=⟨(SN [0] hW Ol),[SY [0] hX Ol],λd=>qbv n d⟩
theorem qbv_ok(n:Nat):bC Tryd.prog 61 (qbv_E n):=
 bC.b n zz Tryd.f61 {boxed:= [(0,0)]} [] .e .e (by kernel_rfl) (by kernel_rfl) λ_=>by kernel_rfl
def qby_E(n:Nat):aD:=⟨(SN [0] Om .nil),[SY [0] hE .nil],λd=>qby n d.1 d.2⟩
theorem qby_ok(n:Nat):bC Tryd.prog 90 (qby_E n):=
 bC.bS n zz Tryd.f90 {} [] .e .e (by kernel_rfl) (by kernel_rfl) λ_=>by kernel_rfl
def qbx_E(n:Nat):aD:=⟨(SN [0,1] Pr .nil),[SY [0] hE .nil],λd=>qbx n d.1.1 d.1.2 d.2.1 d.2.2⟩
theorem qbx_ok(n:Nat):bC Tryd.prog 59 (qbx_E n):=
 bC.bS n zz Tryd.f59 {} [] (.k (qby_ok n) .e) .e (by kernel_rfl) (by kernel_rfl) λ_=>by kernel_rfl
def qbj_E(n:Nat):aD:=⟨(SN [0,1] Pr .nil),[SY [0] Om .nil],λd=>qbj n d.1.1 d.1.2 d.2.1 d.2.2⟩
theorem qbj_ok(n:Nat):bC Tryd.prog 95 (qbj_E n):=
 bC.bS n zz Tryd.f95 {} [] (.k (qbx_ok n) (.k (qby_ok n) .e)) .e (by kernel_rfl) (by kernel_rfl) λ_=>by kernel_rfl
def qn_E(n:Nat):aD:=⟨(SN [0,1,2] (u3 hO hB hL) OS),[SY [0] hE OD,SY [0] hE OS,SY [0] hE (u3 (.bcells 0 false 1 (u8 hH hI hJ hT hK hB hG (.ms 2 0))) Po hZ),SY [0] hE Qj],λd=>qn n d.1.1 d.1.2 d.2.1 d.2.2⟩
def qn_ls(n:Nat):List (Nat×aT):= [(0,⟨[SN [0,1,7,8,50,51,52] Qq Qj],[SX 0 [0,1,8] (u3 hO hB .bool) Qj],qn_W0 n⟩)]
theorem qn_ok(n:Nat):bC Tryd.prog 66 (qn_E n):=
 bC.bS n zz Tryd.f66 {live:= [(0,[0,1,7,8,50,51,52])],boxed:= [(4,6),(4,7),(17,6),(17,7)],raw:= [(3,3),(3,4)],vars:= [(3,4)],tidy:= [(5,[0],[(.tmp 0,7,.tmp 0,999)]),(12,[0,1,7,8,9,10,50,51,52],[(.tmp 0,6,.tmp 1,1)]),(13,[0,1,7,8,9,11,50,51,52],[(.tmp 0,6,.tmp 1,1)]),(14,[0,1,7,9,11,50,51,52],[(.tmp 0,6,.tmp 1,1)]),(18,[0],[(.tmp 0,7,.tmp 0,999)])]} (qn_ls n) (.k (qbc_ok n) (.k (qbv_ok n) (.k (qbj_ok n) .e))) (.k (λ_=>rfl) (λ_=>by kernel_rfl) .e) (by kernel_rfl) (by kernel_rfl) λ_=>by kernel_rfl
def qbd_E(n:Nat):aD:=⟨(SN [0] (u1 hL) .nil),[SY [0] (u1 hL) .nil],λd=>qbd n d⟩
theorem qbd_ok(n:Nat):bC Tryd.prog 113 (qbd_E n):=
 bC.bS n zz Tryd.f113 {} [] .e .e (by kernel_rfl) (by kernel_rfl) λ_=>by kernel_rfl
def qbm_E(n:Nat):aD:=⟨(SN [0,1] (u2 hB hL) .nil),[SY [0] PL .nil],λd=>qbm n d.1 d.2⟩
theorem qbm_ok(n:Nat):bC Tryd.prog 87 (qbm_E n):=
 bC.bS n zz Tryd.f87 {} [] (.k (qbd_ok n) .e) .e (by kernel_rfl) (by kernel_rfl) λ_=>by kernel_rfl
def qbe_E(n:Nat):aD:=⟨(SN [0] hP .nil),[SY [0] PL .nil],λd=>qbe n d⟩
theorem qbe_ok(n:Nat):bC Tryd.prog 88 (qbe_E n):=
 bC.bS n zz Tryd.f88 {} [] (.k (qbd_ok n) .e) .e (by kernel_rfl) (by kernel_rfl) λ_=>by kernel_rfl
def qba_E(n:Nat):aD:=⟨(SN [0,1] (u2 Pa hB) .nil),[SY [0] Om .nil],λd=>qba n d.1.1 d.1.2.1 d.1.2.2.1 d.1.2.2.2.1 d.1.2.2.2.2 d.2⟩
theorem qba_ok(n:Nat):bC Tryd.prog 114 (qba_E n):=
 bC.bS n zz Tryd.f114 {} [] .e .e (by kernel_rfl) (by kernel_rfl) λ_=>by kernel_rfl
def qbf_E(n:Nat):aD:=⟨(SN [0,1,2] (u3 Pj Pa O6) .nil),[SY [0] (u1 (.agg (u2 hL hL))) .nil],λd=>qbf n d.1.1 d.1.2.1 d.1.2.2.1 d.1.2.2.2.1 d.1.2.2.2.2 d.2.1.1 d.2.1.2.1 d.2.1.2.2.1 d.2.1.2.2.2.1 d.2.1.2.2.2.2 d.2.2.1 d.2.2.2.1 d.2.2.2.2⟩
theorem qbf_ok(n:Nat):bC Tryd.prog 89 (qbf_E n):=
 bC.bS n zz Tryd.f89 {} [] (.k (qbd_ok n) (.k (qba_ok n) .e)) .e (by kernel_rfl) (by kernel_rfl) λ_=>by kernel_rfl
def qcb_E(n:Nat):aD:=⟨(SN [0,1,2,3] (u4 Pj Pa O6 hL) .nil),[SY [0] PL .nil],λd=>qcb n d.1.1 d.1.2.1 d.1.2.2.1 d.1.2.2.2.1 d.1.2.2.2.2 d.2.1.1 d.2.1.2.1 d.2.1.2.2.1 d.2.1.2.2.2.1 d.2.1.2.2.2.2 d.2.2.1.1 d.2.2.1.2.1 d.2.2.1.2.2 d.2.2.2⟩
theorem qcb_ok(n:Nat):bC Tryd.prog 58 (qcb_E n):=
 bC.bS n zz Tryd.f58 {} [] (.k (qbm_ok n) (.k (qbe_ok n) (.k (qbf_ok n) .e))) .e (by kernel_rfl) (by kernel_rfl) λ_=>by kernel_rfl
def qbk_E(n:Nat):aD:=⟨(SN [0,1] (u2 O6 hB) .nil),[SY [0] (u1 hY) .nil],λd=>qbk n d.1.1 d.1.2.1 d.1.2.2 d.2⟩
theorem qbk_ok(n:Nat):bC Tryd.prog 60 (qbk_E n):=
 bC.bS n zz Tryd.f60 {} [] .e .e (by kernel_rfl) (by kernel_rfl) λ_=>by kernel_rfl
def qbo_E(n:Nat):aD:=⟨(SN [0,1] (u2 .nilS hB) .nil),[SY [0] hX Ol,SY [0] (u1 .nilS) .nil],λd=>qbo n d⟩
theorem qbo_ok(n:Nat):bC Tryd.prog 91 (qbo_E n):=
 bC.b n zz Tryd.f91 {boxed:= [(0,0),(1,0),(3,0),(3,1),(3,3),(3,7),(4,0),(5,0),(5,1),(5,4),(5,5),(5,6),(5,9),(6,0),(6,1)]} [] .e .e (by kernel_rfl) (by kernel_rfl) λ_=>by kernel_rfl
def qat_E(n:Nat):aD:=⟨(SN [0] (u1 hH) .nil),[SY [0] hX Ol,SY [0] (u1 hN) .nil],λd=>qat n d⟩
def qat_ls(n:Nat):List (Nat×aT):= [(0,⟨[SN [0,3,9,10,11] (u5 hH hB hH hB hB) .nil],[SX 0 [0,3] (u2 hH hB) .nil],qat_W0 n⟩),(2,⟨[SN [6,25,26,27] (u4 (.ms 0 0) hH hB hB) Ol,SN [6,25,26,27] (u4 hF hH hB hB) Ol,SN [6,25,26,27] (u4 .nilS hH hB hB) .nil],[SX 2 [6] hX Ol,SX 2 [6] hW Ol,SX 2 [6] (u1 .nilS) .nil],qat_W2x1 n⟩)]
theorem qat_ok(n:Nat):bC Tryd.prog 62 (qat_E n):=
 bC.bS n zz Tryd.f62 {live:= [(0,[0,3,9,10,11]),(2,[6,25,26,27])],boxed:= [(2,0),(4,2),(5,0),(5,1),(5,4),(6,0),(8,1),(9,0),(9,2),(10,0),(12,2),(13,0),(13,1),(13,2),(13,3),(14,1),(15,0),(15,1)],raw:= [(9,1)]} (qat_ls n) (.k (qbo_ok n) .e) (.k (λ_=>rfl) (λ_=>by kernel_rfl) (.k (λ_=>rfl) (λs=>by rcases s with s|s|s<;>kernel_rfl) .e)) (by kernel_rfl) (by kernel_rfl) λ_=>by kernel_rfl
def qax_E(n:Nat):aD:=⟨(SN [0] (u1 hN) .nil),[SY [0] (u1 hN) .nil],λd=>qax n d⟩
theorem qax_ok(n:Nat):bC Tryd.prog 61 (qax_E n):=
 bC.b n zz Tryd.f61 {boxed:= [(0,0)]} [] .e .e (by kernel_rfl) (by kernel_rfl) λ_=>by kernel_rfl
def qas_E(n:Nat):aD:=⟨(SN [0] (u1 hL) .nil),[SY [0] (u1 hL) .nil],λd=>qas n d⟩
theorem qas_ok(n:Nat):bC Tryd.prog 61 (qas_E n):=
 bC.b n zz Tryd.f61 {boxed:= [(0,0)]} [] .e .e (by kernel_rfl) (by kernel_rfl) λ_=>by kernel_rfl
def qbq_E(n:Nat):aD:=⟨(SN [0,1,2,3] (u4 Pj hB hB hL) .nil),[SY [0] (u1 (.tup (u3 hN hY hB))) .nil],λd=>qbq n d.1.1 d.1.2.1 d.1.2.2.1 d.1.2.2.2.1 d.1.2.2.2.2 d.2.1 d.2.2.1 d.2.2.2⟩
def qbq_ls(n:Nat):List (Nat×aT):= [(0,⟨[SN [2,3,11,12,14,55,56,57] (u8 hB hL hO hR hB hL hB hB) (u2 Pu Qi)],[SY [8,9,10] (u3 hN hY hB) (u3 Pu Qi Pf),SX 0 [2,3,11,12,14] (u5 hB hL hO hR hB) (u2 Pu Qi)],qbq_W0 n⟩)]
theorem qbq_ok(n:Nat):bC Tryd.prog 36 (qbq_E n):=
 bC.bS n zz Tryd.f36 {live:= [(0,[2,3,11,12,14,55,56,57])]} (qbq_ls n) (.k (qcb_ok n) (.k (qbx_ok n) (.k (qbk_ok n) (.k (qat_ok n) (.k (qax_ok n) (.k (qas_ok n) .e)))))) (.k (λ_=>rfl) (λ_=>by kernel_rfl) .e) (by kernel_rfl) (by kernel_rfl) λ_=>by kernel_rfl
def qe_E(n:Nat):aD:=⟨(SN [0,1,2] (u3 hO hB hL) OD),[SY [0] hE (u3 (.bcells 0 false 1 (u8 hH hI hJ hT hK hB hD (.ms 2 1))) Pc Qw),SY [0] hE OD,SY [0] hE OH],λd=>qe n d.1.1 d.1.2 d.2.1 d.2.2.1 d.2.2.2⟩
def qe_ls(n:Nat):List (Nat×aT):= [(0,⟨[SN [0,1,7,8,50,51,52] Qq OH],[SX 0 [0,1,8] (u3 hO hB .bool) OH],qe_W0 n⟩)]
theorem qe_ok(n:Nat):bC Tryd.prog 66 (qe_E n):=
 bC.bS n zz Tryd.f66 {live:= [(0,[0,1,7,8,50,51,52])],boxed:= [(4,6),(4,7),(17,6),(17,7)],raw:= [(3,3),(3,4)],vars:= [(3,4)],tidy:= [(5,[0],[(.tmp 0,7,.tmp 0,999)]),(12,[0,1,7,8,9,10,50,51,52],[(.tmp 0,6,.tmp 1,1)]),(13,[0,1,7,8,9,11,50,51,52],[(.tmp 0,6,.tmp 1,1)]),(14,[0,1,7,9,11,50,51,52],[(.tmp 0,6,.tmp 1,1)]),(18,[0],[(.tmp 0,7,.tmp 0,999)])]} (qe_ls n) (.k (qbc_ok n) (.k (qbv_ok n) (.k (qbj_ok n) .e))) (.k (λ_=>rfl) (λ_=>by kernel_rfl) .e) (by kernel_rfl) (by kernel_rfl) λ_=>by kernel_rfl
def qp_E(n:Nat):aD:=⟨(SN [0] Fu OD),[SY [0] Pt OD,SY [0] Pt OH],λd=>qp n d.1 d.2.1 d.2.2⟩
def qp_ls(n:Nat):List (Nat×aT):= [(0,⟨[SN [0,4,5,49,50,51] (u6 hO hB hN hY hB hB) OH],[SY [2,3] NV (u3 (.bcells 0 false 1 (u8 hH hI hJ hT hK hB hG (.ms 2 2))) Po Qv),SY [2,3] NV OH,SY [2,3] NV (u3 (.bcells 0 false 1 (u8 hH hI hJ hT hK hB (.msw 1 2) (.ms 2 2))) (.bos 2 false (.cons .bool (.sl true (.cons (.int .i64) (.int .i64)))) .nil) Qv),SX 0 [] .nil OH],qp_W0 n⟩)]
theorem qp_ok(n:Nat):bC Tryd.prog 67 (qp_E n):=
 bC.bS n zz Tryd.f67 {live:= [(0,[0,4,5,49,50,51])],tidy:= [(3,[0,4],[(.tmp 0,6,.tmp 4,1)])]} (qp_ls n) (.k (qbq_ok n) (.k (qe_ok n) .e)) (.k (λ_=>rfl) (λ_=>by kernel_rfl) .e) (by kernel_rfl) (by kernel_rfl) λ_=>by kernel_rfl
def qa_E(n:Nat):aD:=⟨(SN [0] Fu (u1 (.bcells 0 false 1 (u8 hH hI hJ hT hK hB .nilS .nilS)))),[SY [0] Pt OD,SY [0] Pt OS],λd=>qa n d⟩
def qa_ls(n:Nat):List (Nat×aT):= [(500,⟨[SN [0] Fu OD,SN [0] Fu OS],[SY [2,3] NV OD,SY [2,3] NV OH,SY [2,3] NV OS],qa_W500x1 n⟩)]
theorem qa_ok(n:Nat):bC Tryd.prog 39 (qa_E n):=
 bC.bS n zz Tryd.f39 {live:= [(500,[0])],own:= [(1,14)]} (qa_ls n) (.k (qn_ok n) (.k (qp_ok n) .e)) (.k (λ_=>rfl) (λs=>by rcases s with s|s<;>kernel_rfl) .e) (by kernel_rfl) (by kernel_rfl) λ_=>by kernel_rfl
def qan_E(n:Nat):aD:=⟨(SN [0] K4 .nil),[SY [0] (u1 (.tup (u4 (.sl false false yG) hB hB hB))) .nil],λd=>qan n d.1 d.2.1 d.2.2.1 d.2.2.2.1 d.2.2.2.2⟩
def qan_ls(n:Nat):List (Nat×aT):= [(1,⟨[SN [1,2,23,24] (u4 hO hD hB hB) (u2 OY hU)],[SY [2,3,4,5] (u4 (.msw 5 0) hB hB hB) (u6 OY hU (.bcells 0 false 1 (u8 hH hI hJ hT hK hB (.msw 3 0) (.ms 4 0))) Pc hZ hU),SY [2,3,4,5] (u4 (.msw 4 0) hB hB hB) (u5 OY hU (.bcells 0 false 1 (u8 hH hI hJ hT hK hB (.msw 3 0) .nilS)) Pc hU),SX 1 [2] (u1 hD) (u2 OY hU)],qan_W1 n⟩)]
theorem qan_ok(n:Nat):bC Tryd.prog 24 (qan_E n):=
 bC.bS n zz Tryd.f24 {live:= [(1,[1,2,23,24])],boxed:= [(0,1),(3,1),(5,0),(12,3),(13,6)]} (qan_ls n) (.k (qbh_ok n) (.k (qbt_ok n) (.k (qa_ok n) .e))) (.k (λ_=>rfl) (λ_=>by kernel_rfl) .e) (by kernel_rfl) (by kernel_rfl) λ_=>by kernel_rfl
def qah_E(n:Nat):aD:=⟨(SN [] .nil .nil),[SY [0] hE .nil],λd=>qah n⟩
theorem qah_ok(n:Nat):bC Tryd.prog 23 (qah_E n):=
 bC.bS n zz Tryd.f23 {} [] (.k (qan_ok n) .e) .e (by kernel_rfl) (by kernel_rfl) λ_=>by kernel_rfl
def yK(n:Nat):aD:=⟨(SN [0,1] (u2 hA hA) .nil),[SY [0] hE .nil],λd=>aG n d.1 d.2⟩
def vL(n:Nat):List (Nat×aT):= [(0,⟨[SN [1,5,6,7,8,9] (u6 hA hO hB hD (.msw 2 0) hB) (u3 Pf hS hS)],[SX 0 [1,5,6,7,8] (u5 hA hO hB hD (.msw 2 0)) (u3 Pf hS hS)],cQ n⟩)]
theorem vK(n:Nat):bC Tryd.prog 8 (yK n):=
 bC.bS n zz Tryd.f8 {live:= [(0,[1,5,6,7,8,9])],boxed:= [(3,2),(5,3),(7,3),(8,0),(12,3),(15,5),(16,2),(16,7)]} (vL n) (.k (qan_ok n) (.k (qah_ok n) .e)) (.k (λ_=>rfl) (λ_=>by kernel_rfl) .e) (by kernel_rfl) (by kernel_rfl) λ_=>by kernel_rfl
def qbu_E(n:Nat):aD:=⟨(SN [0] Om .nil),[SY [0] hE .nil],λd=>qbu n d.1 d.2⟩
theorem qbu_ok(n:Nat):bC Tryd.prog 44 (qbu_E n):=
 bC.bS n zz Tryd.f44 {} [] .e .e (by kernel_rfl) (by kernel_rfl) λ_=>by kernel_rfl
def qbr_E(n:Nat):aD:=⟨(SN [0,1] Pr .nil),[SY [0] hE .nil],λd=>qbr n d.1.1 d.1.2 d.2.1 d.2.2⟩
theorem qbr_ok(n:Nat):bC Tryd.prog 43 (qbr_E n):=
 bC.bS n zz Tryd.f43 {} [] (.k (qbu_ok n) .e) .e (by kernel_rfl) (by kernel_rfl) λ_=>by kernel_rfl
def qar_E(n:Nat):aD:=⟨(SN [0,1] Pr .nil),[SY [0] Om .nil],λd=>qar n d.1.1 d.1.2 d.2.1 d.2.2⟩
theorem qar_ok(n:Nat):bC Tryd.prog 29 (qar_E n):=
 bC.bS n zz Tryd.f29 {} [] (.k (qbr_ok n) (.k (qbu_ok n) .e)) .e (by kernel_rfl) (by kernel_rfl) λ_=>by kernel_rfl
def wT(n:Nat):aD:=⟨(SN [0,1] (u2 hA hA) .nil),[SY [0] hE .nil],λd=>aC n d.1 d.2⟩
theorem vM(n:Nat):bC Tryd.prog 9 (wT n):=
 bC.bS n zz Tryd.f9 {} [] (.k (qan_ok n) (.k (qah_ok n) (.k (qar_ok n) .e))) .e (by kernel_rfl) (by kernel_rfl) λ_=>by kernel_rfl
end
end Sx
