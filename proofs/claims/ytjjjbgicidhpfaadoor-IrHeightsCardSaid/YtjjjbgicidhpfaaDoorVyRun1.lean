import Derived.Test.YtjjjbgicidhpfaaDoorProg
import Derived.Test.YtjjjbgicidhpfaaDoorLib36
import Derived.Test.YtjjjbgicidhpfaaDoorVySh
open Go Go.Ab Go.Proofs
set_option linter.unusedVariables false
set_option maxRecDepth 20000
namespace Sx
noncomputable section
abbrev yA:Ty:=(.sl true (.cons (.int .i64) (.int .i64)))
abbrev yB:Ty:=(.cons (.sl true (.cons (.int .i64) (.int .i64))) (.cons (.int .i64) (.cons (.int .i64) (.cons (.sl true (.cons (.int .i64) (.int .i64))) (.sl true (.cons (.int .i64) (.cons (.int .i64) (.int .i64))))))))
abbrev yC:Ty:=(.cons (.sl true (.cons (.int .i64) (.int .i64))) (.cons (.int .i64) (.int .i64)))
abbrev yD:Ty:=(.cons (.int .i64) (.int .i64))
abbrev yE:Ty:=(.cons (.int .i64) (.cons (.int .i64) (.int .i64)))
abbrev yF:Ty:=(.sl false (.int .u8))
abbrev yG:Ty:=(.sl true (.cons .bool (.sl true (.cons (.int .i64) (.int .i64)))))
abbrev yH:Ty:=(.cons .bool (.sl true (.cons (.int .i64) (.int .i64))))
abbrev yI:Ty:=(.sl true (.cons (.int .i64) (.cons (.int .i64) (.cons (.int .i64) (.cons (.int .i64) (.cons (.int .i64) (.int .i64)))))))
abbrev yJ:Ty:=(.cons (.int .i64) (.cons (.int .i64) (.cons (.int .i64) (.cons (.int .i64) (.cons (.int .i64) (.int .i64))))))
def iU:List (String×Nat×Int×Int):= [("chrysalis/flow.number",1,1,0),("chrysalis/flow.octets",3,2,0),("chrysalis/flow.words",2,3,0),("chrysalis/flow.refs",4,7,0),("chrysalis/flow.use",0,8,0)]
def WI:DH:= [(1,1,0),(3,2,0),(2,3,0),(4,7,0),(0,8,0)]
instance gTab:cS:=⟨λg=>dS g WI⟩
abbrev xA:Ty:= .int .i64
abbrev xB:Ty:= .sl false (.int .u64)
abbrev xC:Ty:= .sl false (.int .u8)
abbrev xD:Ty:= .sl true (.cons xA xA)
abbrev xE:Ty:= .cons xA (.cons xA xA)
abbrev xF:Ty:= .sl true (.cons .bool xD)
abbrev xG:Ty:= .sl true (.cons xD (.cons xA xA))
abbrev xH:Ty:= .cons xA (.cons xA (.cons xA xE))
abbrev xI:Ty:= .cons xD (.cons xA (.cons xA (.cons xD (.sl true xE))))
abbrev zi:Value:= .int .i64 0
abbrev zl:Value:= .slice none 0 0
abbrev zu:Value:= .int .u64 0
abbrev zp:Value:= .pointer none
abbrev zt:Value:= .string (ByteArray.mk (List.toArray []))
def tA:TI:=⟨.int .i64,1,8,false,some xA,false,[zi]⟩
def tB:TI:=⟨.bool,1,1,false,some .bool,false,[.bool false]⟩
def tC:TI:=⟨.int .u8,1,1,false,some (.int .u8),false,[.int .u8 0]⟩
def tD:TI:=⟨.st [(0,1,2),(1,1,3),(2,1,4),(3,1,6)],4,24,true,some (.cons xA (.cons xA (.cons .bool (.int .u8)))),true,[zi,zi,.bool false,.int .u8 0]⟩
def tE:TI:=⟨.str,1,16,false,some .str,false,[zt]⟩
def tF:TI:=⟨.int .u64,1,8,false,some (.int .u64),false,[zu]⟩
def tG:TI:=⟨.st [(0,1,9),(1,1,12)],2,24,true,some (.cons .str (.int .u64)),false,[zt,zu]⟩
def tH:TI:=⟨.ptr,1,8,false,none,false,[zp]⟩
def tI:TI:=⟨.st [(0,1,17)],1,8,true,none,false,[zp]⟩
def tJ:TI:=⟨.int .i32,1,4,false,some (.int .i32),false,[.int .i32 0]⟩
def tK:TI:=⟨.sl 29,1,24,false,some (.sl false xD),false,[zl]⟩
def tL:TI:=⟨.sl 53,1,24,false,some (.sl true xI),false,[zl]⟩
def tM:TI:=⟨.sl 70,1,24,false,some xG,false,[zl]⟩
def tN:TI:=⟨.sl 57,1,24,false,some xB,false,[zl]⟩
def tO:TI:=⟨.sl 9,1,24,false,some (.sl false .str),false,[zl]⟩
def tP:TI:=⟨.st [(0,1,22),(1,1,23),(2,1,24),(3,1,25),(4,1,26)],5,120,true,some (.cons (.sl false xD) (.cons (.sl true xI) (.cons xG (.cons xB (.sl false .str))))),false,[zl,zl,zl,zl,zl]⟩
def tQ:TI:=⟨.sl 37,1,24,false,some xD,false,[zl]⟩
def tR:TI:=⟨.sl 3,1,24,false,some (.sl false xA),false,[zl]⟩
def tS:TI:=⟨.st [(0,1,3),(1,1,3)],2,16,true,some (.cons xA xA),true,[zi,zi]⟩
def tT:TI:=⟨.sl 43,1,24,false,some (.sl false xF),false,[zl]⟩
def tU:TI:=⟨.sl 45,1,24,false,some xF,false,[zl]⟩
def tV:TI:=⟨.st [(0,1,4),(1,1,29)],2,32,true,some (.cons .bool xD),false,[.bool false,zl]⟩
def tW:TI:=⟨.sl 56,1,24,false,some (.sl true xE),false,[zl]⟩
def tX:TI:=⟨.st [(0,1,29),(1,2,37),(3,1,29),(4,1,51)],5,88,true,some xI,false,[zl,zi,zi,zl,zl]⟩
def tY:TI:=⟨.st [(0,1,3),(1,1,3),(2,1,3)],3,24,true,some xE,true,[zi,zi,zi]⟩
def tZ:TI:=⟨.sl 63,1,24,false,some (.sl false (.sl true xH)),false,[zl]⟩
def XI:TI:=⟨.sl 65,1,24,false,some (.sl true xH),false,[zl]⟩
def Xq:TI:=⟨.st [(0,1,3),(1,1,3),(2,1,3),(3,1,3),(4,1,3),(5,1,3)],6,48,true,some xH,true,[zi,zi,zi,zi,zi,zi]⟩
def XF:TI:=⟨.st [(0,1,29),(1,2,37)],3,40,true,some (.cons xD (.cons xA xA)),false,[zl,zi,zi]⟩
def Xx:TI:=⟨.st [(0,5,28),(5,1,3),(6,1,43),(7,1,32)],8,176,true,some (.cons (.sl false xD) (.cons (.sl true xI) (.cons xG (.cons xB (.cons (.sl false .str) (.cons xA (.cons xF (.sl false xA)))))))),false,[zl,zl,zl,zl,zl,zi,zl,zl]⟩
def XJ:TI:=⟨.sl 5,1,24,false,some xC,false,[zl]⟩
def Xs:TI:=⟨.st [(0,1,29),(1,1,29)],2,48,true,some (.cons xD xD),false,[zl,zl]⟩
def XP:TI:=⟨.sl 78,1,24,false,some (.sl false xC),false,[zl]⟩
def Xu:TI:=⟨.st [(0,1,78)],1,24,true,some xC,false,[zl]⟩
def XO:TI:=⟨.arr 2 3,2,16,true,none,false,[zi,zi]⟩
def Xw:TI:=⟨.st [(0,1,17),(1,1,17),(2,1,17),(3,1,9)],4,40,true,none,false,[zp,zp,zp,zt]⟩
def XH:TI:=⟨.arr 0 16,0,0,true,none,false,[]⟩
def Xy:TI:=⟨.st [(0,0,149)],0,0,true,none,false,[]⟩
def XN:TI:=⟨.int .u32,1,4,false,some (.int .u32),false,[.int .u32 0]⟩
def XL:TI:=⟨.other,1,8,false,none,false,[zp]⟩
def WE:List (Nat×TI):= [(2,tA),(3,tA),(4,tB),(5,tC),(6,tC),(7,tD),(8,tD),(9,tE),(10,tE),(11,tE),(12,tF),(13,tG),(14,tG),(15,tH),(16,tH),(17,tH),(18,tI),(19,tI),(21,tJ),(22,tK),(23,tL),(24,tM),(25,tN),(26,tO),(27,tP),(28,tP),(29,tQ),(32,tR),(33,tA),(36,tS),(37,tS),(40,tT),(43,tU),(44,tV),(45,tV),(51,tW),(52,tX),(53,tX),(55,tY),(56,tY),(57,tF),(60,tZ),(63,XI),(64,Xq),(65,Xq),(69,XF),(70,XF),(71,tH),(73,tH),(74,Xx),(75,Xx),(78,XJ),(94,Xs),(95,Xs),(111,XP),(134,tH),(135,Xu),(136,Xu),(143,tF),(145,XO),(147,Xw),(148,Xw),(149,XH),(150,Xy),(151,Xy),(153,XN),(154,tC),(155,tC),(157,tH),(158,tJ),(159,tJ),(162,XL)]
def tab:TypeId->Option TI:=λt=>dS t WE
theorem Wu:b9 Tryd.prog tab:=(show b9 Tryd.prog (λt=>dS t WE)from b9.of_list _ (by kernel_rfl))
theorem Po:rF Tryd.prog=true:=by kernel_rfl
theorem Pt:Tryd.prog.follows .mixedOrders=true:=by kernel_rfl
theorem zz:W5 Tryd.prog tab:=⟨Po,Pt,Wu⟩
abbrev hA:Sh:= .int .i64
abbrev hB:Sh:= .int .u64
abbrev hC:Sh:=u1 .bool
abbrev hD:Sh:= .msw 1 0
abbrev hE:Sh:= .msw 3 0
abbrev hF:Sh:= .msw 4 0
abbrev hG:Sh:= .msw 0 0
abbrev hH:Sh:= .msw 1 1
abbrev hI:Sh:= .msw 2 0
abbrev hJ:Sh:= .sl true false yA
abbrev hK:Sh:= .sl true true yB
abbrev hL:Sh:= .sl true true yC
abbrev hM:Sh:= .sl true false .str
abbrev hN:Sh:= .sl false false yG
abbrev hO:Sh:= .sl true true yD
abbrev hP:Sh:= .sl true true yE
abbrev hQ:Sh:= .sl true false yF
abbrev hR:Sh:= .sl false true yD
abbrev hS:Sh:= .sl true false yG
abbrev hT:Sh:= .sl false false yI
abbrev hU:Sh:= .ptr 0 0 0 0
abbrev hV:Sh:=u1 hA
abbrev hW:Sh:=u1 (.tup .nil)
abbrev hX:Sh:= .ptr 1 0 0 0
abbrev hY:Sh:= .sl true false (.int .u64)
abbrev hZ:Sh:= .bts 0 false false false yG
abbrev Xa:Sh:= .sl false false (.int .u8)
abbrev TQ:Sh:=u1 hG
abbrev Xe:Sh:= .bts 0 false false true yD
abbrev WV:Sh:=u1 (.ms 0 0)
abbrev S3:Sh:= .sl false false (.int .i64)
abbrev W2:Sh:= .bts 0 false false true yH
abbrev Xh:Sh:= .bts 0 false false false yI
abbrev W1:Sh:= .bts 0 false false false (.int .i64)
abbrev HC:Sh:=u1 hU
abbrev CA:Sh:= .bts 0 false false false (.int .u8)
abbrev Xz:Sh:= .bts 1 false false false (.int .i64)
abbrev XC:Sh:= .bts 2 false false false (.int .i64)
abbrev Sd:Sh:=u1 Xa
abbrev Vo:Sh:=u1 Xe
abbrev Ut:Sh:=u2 hA hA
abbrev WM:Sh:=u2 hN .bool
abbrev O2:Sh:=u1 CA
abbrev WB:Sh:= .agg Ut
abbrev WL:Sh:=u2 Xa .bool
abbrev VS:Sh:=u2 hU hA
abbrev yS:Sh:=u1 (.bcells 0 false 1 hV)
abbrev S0:Sh:=u1 WB
abbrev WG:Sh:=u1 (.tup Ut)
abbrev W6:Sh:=u3 hU hA .bool
abbrev VU:Sh:= .agg (u3 hA hA hA)
abbrev WU:Sh:=u3 hU hA hA
abbrev WR:Sh:= .bos 0 false (.cons .bool (.sl true (.cons (.int .i64) (.int .i64)))) .nil
abbrev VQ:Sh:= .bos 1 false (.cons .bool (.sl true (.cons (.int .i64) (.int .i64)))) .nil
abbrev W8:Sh:= .bcells 0 false 1 (u2 hO hO)
abbrev Wr:Sh:= .bcells 0 false 1 (u3 hA hA hA)
abbrev Xb:Sh:=u4 hU hK hA hA
abbrev Qo:Sh:=u2 (.bcells 0 false 1 (u1 hD)) CA
abbrev WY:Sh:=u2 (.bcells 0 false 1 (u1 hH)) (.bts 1 false false false (.int .u8))
abbrev Xi:Sh:=u1 (.tup (u2 (.agg (u2 hO hO)) .bool))
abbrev WX:Sh:=u4 hU hT hN hA
abbrev Xr:Sh:=u2 CA (.bcells 0 false 1 Ut)
abbrev XG:Sh:=u2 hP (.fn 49 .nil (u2 hU hX))
abbrev W0:Sh:=u2 WB WB
abbrev XB:Sh:=u5 hS hU hA (.sl true true yH) hA
abbrev VX:Sh:= .agg (u5 hO hA hA hO hP)
abbrev V0:Sh:= .bcells 0 false 1 (u6 hA hA hA hA hA hA)
abbrev R9:Sh:= .bcells 0 false 1 (u5 hO hA hA hO hP)
abbrev UE:Sh:= .agg (u5 hJ hK hL hY hM)
abbrev Xt:Sh:=u7 hU hA (.ptrI 1 1 0) .bool hO hA hA
abbrev KG:Sh:=u1 UE
abbrev Co:Sh:= .bcells 0 false 1 (u5 hJ hK hL hY hM)
abbrev x6:Sh:=u1 Co
abbrev Xk:Sh:=u4 UE hA hA hO
abbrev UD:Sh:=u3 Co hZ W2
abbrev WD:Sh:=u2 (.bcells 0 false 1 (u8 hJ hK hL hY hM hA hD .nilS)) WR
abbrev W7:Sh:=u2 (.bcells 0 false 1 (u8 hJ hK hL hY hM hA hH .nilS)) VQ
abbrev KI:Sh:=u2 Co R9
abbrev VP:Sh:=u3 (.bcells 0 false 1 (u8 hJ hK hL hY hM hA hD (.ms 2 0))) WR W1
abbrev VV:Sh:=u3 (.bcells 0 false 1 (u8 hJ hK hL hY hM hA hH (.ms 2 1))) VQ Xz
abbrev Xl:Sh:=u3 UE VX VU
abbrev XA:Sh:=u6 Co CA CA CA CA CA
abbrev XD:Sh:=u4 Co Xh R9 (.bts 0 false false true yJ)
abbrev WT:Sh:=u4 Co CA CA R9
abbrev W3:Sh:=u3 Co V0 V0
def qaz_E(n:Nat):aG:=⟨(SN [0] KG .nil),[SY [0] hC .nil],λd=>qaz n d.1 d.2.1 d.2.2.1 d.2.2.2.1 d.2.2.2.2⟩
def qaz_ls(n:Nat):List (Nat×aQ):= [(0,⟨[SN [1,3,4] WU x6],[SX 0 [1,3] VS x6],qaz_W0 n⟩),(2,⟨[SN [1,3,5] WU x6],[SX 2 [1,3] VS x6],qaz_W2 n⟩),(4,⟨[SN [1,3,6] WU x6],[SX 4 [1,3] VS x6],qaz_W4 n⟩),(6,⟨[SN [1,3,7] WU x6],[SX 6 [3] hV x6],qaz_W6 n⟩)]
theorem qaz_ok(n:Nat):a6 Tryd.prog 15 (qaz_E n):=
 a6.bS n zz Tryd.f15 {live:= [(0,[1,3,4]),(2,[1,3,5]),(4,[1,3,6]),(6,[1,3,7])]} (qaz_ls n) .e (.k (λ_=>rfl) (λ_=>by kernel_rfl) (.k (λ_=>rfl) (λ_=>by kernel_rfl) (.k (λ_=>rfl) (λ_=>by kernel_rfl) (.k (λ_=>rfl) (λ_=>by kernel_rfl) .e)))) (by kernel_rfl) (by kernel_rfl) λ_=>by kernel_rfl
def qcn_E(n:Nat):aG:=⟨(SN [0,1] (u2 WB hA) .nil),[SY [0] hC .nil],λd=>qcn n d.1.1 d.1.2 d.2⟩
theorem qcn_ok(n:Nat):a6 Tryd.prog 104 (qcn_E n):=
 a6.bS n zz Tryd.f104 {} [] .e .e (by kernel_rfl) (by kernel_rfl) λ_=>by kernel_rfl
def qan_E(n:Nat):aG:=⟨(SN [0,1] (u2 WB hU) yS),[SY [0] hC yS],λd=>qan n d.1.1 d.1.2 d.2⟩
theorem qan_ok(n:Nat):a6 Tryd.prog 116 (qan_E n):=
 a6.bS n zz Tryd.f116 {} [] (.k (qcn_ok n) .e) .e (by kernel_rfl) (by kernel_rfl) λ_=>by kernel_rfl
def qah_E(n:Nat):aG:=⟨(SN [0,1] (u2 hO (.fn 116 .nil HC)) yS),[SY [0] hV yS],λd=>qah n d.1 d.2⟩
def qah_ls(n:Nat):List (Nat×aQ):= [(0,⟨[SN [0,1,7,8] (u4 hO (.fn 116 .nil HC) hA hA) yS],[SY [4] hV yS,SX 0 [] .nil yS],qah_W0 n⟩)]
theorem qah_ok(n:Nat):a6 Tryd.prog 85 (qah_E n):=
 a6.bS n zz Tryd.f85 {live:= [(0,[0,1,7,8])]} (qah_ls n) (.k (qan_ok n) .e) (.k (λ_=>rfl) (λ_=>by kernel_rfl) .e) (by kernel_rfl) (by kernel_rfl) λ_=>by kernel_rfl
def qs_E(n:Nat):aG:=⟨(SN [0,1] (u2 hO (.fn 116 .nil HC)) yS),[SY [0] hC yS],λd=>qs n d.1 d.2⟩
theorem qs_ok(n:Nat):a6 Tryd.prog 52 (qs_E n):=
 a6.bS n zz Tryd.f52 {} [] (.k (qah_ok n) .e) .e (by kernel_rfl) (by kernel_rfl) λ_=>by kernel_rfl
def qax_E(n:Nat):aG:=⟨(SN [0,1,2] (u3 hO hA hA) .nil),[SY [0] hC .nil],λd=>qax n d.1 d.2.1 d.2.2⟩
theorem qax_ok(n:Nat):a6 Tryd.prog 99 (qax_E n):=
 a6.bS n zz Tryd.f99 {} [] (.k (qs_ok n) .e) .e (by kernel_rfl) (by kernel_rfl) λ_=>by kernel_rfl
def qao_E(n:Nat):aG:=⟨(SN [0,1] (u2 hO hU) yS),[SY [0] hC yS],λd=>qao n d.1 d.2⟩
theorem qao_ok(n:Nat):a6 Tryd.prog 98 (qao_E n):=
 a6.bS n zz Tryd.f98 {} [] (.k (qax_ok n) .e) .e (by kernel_rfl) (by kernel_rfl) λ_=>by kernel_rfl
def qw_E(n:Nat):aG:=⟨(SN [0,1] (u2 hJ (.fn 98 .nil HC)) yS),[SY [0] hV yS],λd=>qw n d.1 d.2⟩
def qw_ls(n:Nat):List (Nat×aQ):= [(0,⟨[SN [0,1,7,8] (u4 hJ (.fn 98 .nil HC) hA hA) yS],[SY [4] hV yS,SX 0 [] .nil yS],qw_W0 n⟩)]
theorem qw_ok(n:Nat):a6 Tryd.prog 115 (qw_E n):=
 a6.bS n zz Tryd.f115 {live:= [(0,[0,1,7,8])]} (qw_ls n) (.k (qao_ok n) .e) (.k (λ_=>rfl) (λ_=>by kernel_rfl) .e) (by kernel_rfl) (by kernel_rfl) λ_=>by kernel_rfl
def qg_E(n:Nat):aG:=⟨(SN [0,1] (u2 hJ (.fn 98 .nil HC)) yS),[SY [0] hC yS],λd=>qg n d.1 d.2⟩
theorem qg_ok(n:Nat):a6 Tryd.prog 97 (qg_E n):=
 a6.bS n zz Tryd.f97 {} [] (.k (qw_ok n) .e) .e (by kernel_rfl) (by kernel_rfl) λ_=>by kernel_rfl
def qcj_E(n:Nat):aG:=⟨(SN [0] hV .nil),[SY [0] hV .nil],λd=>qcj n d⟩
theorem qcj_ok(n:Nat):a6 Tryd.prog 120 (qcj_E n):=
 a6.bS n zz Tryd.f120 {} [] .e .e (by kernel_rfl) (by kernel_rfl) λ_=>by kernel_rfl
def qda_E(n:Nat):aG:=⟨(SN [0,1] (u2 hA .bool) .nil),[SY [0] hC .nil],λd=>qda n d.1 d.2⟩
theorem qda_ok(n:Nat):a6 Tryd.prog 121 (qda_E n):=
 a6.bS n zz Tryd.f121 {} [] .e .e (by kernel_rfl) (by kernel_rfl) λ_=>by kernel_rfl
def qdd_E(n:Nat):aG:=⟨(SN [0] (u1 hB) .nil),[SY [0] TQ O2],λd=>qdd n d⟩
def qdd_ls(n:Nat):List (Nat×aQ):= [(0,⟨[SN [0,3] (u2 hB hG) O2],[SX 0 [0,3] (u2 hB hG) O2],qdd_W0 n⟩)]
theorem qdd_ok(n:Nat):a6 Tryd.prog 107 (qdd_E n):=
 a6.b n zz Tryd.f107 {live:= [(0,[0,3])],boxed:= [(0,0),(1,0),(4,5),(5,4)]} (qdd_ls n) .e (.k (λ_=>rfl) (λ_=>by kernel_rfl) .e) (by kernel_rfl) (by kernel_rfl) λ_=>by kernel_rfl
def qcw_E(n:Nat):aG:=⟨(SN [0] (u1 VU) .nil),[SY [0] Sd .nil],λd=>qcw n d.1 d.2.1 d.2.2⟩
def qcw_ls(n:Nat):List (Nat×aQ):= [(0,⟨[SN [4,39,40,41] (u4 hG (.ms 1 0) hA hA) Xr],[SX 0 [4] TQ Xr],qcw_W0 n⟩)]
theorem qcw_ok(n:Nat):a6 Tryd.prog 111 (qcw_E n):=
 a6.bS n zz Tryd.f111 {live:= [(0,[4,39,40,41])],boxed:= [(4,3),(9,4)]} (qcw_ls n) (.k (qcj_ok n) (.k (qda_ok n) (.k (qdd_ok n) .e))) (.k (λ_=>rfl) (λ_=>by kernel_rfl) .e) (by kernel_rfl) (by kernel_rfl) λ_=>by kernel_rfl
def qz_E(n:Nat):aG:=⟨(SN [0] (u1 VU) .nil),[SY [0] hC .nil],λd=>qz n d.1 d.2.1 d.2.2⟩
theorem qz_ok(n:Nat):a6 Tryd.prog 118 (qz_E n):=
 a6.bS n zz Tryd.f118 {} [] (.k (qcw_ok n) .e) .e (by kernel_rfl) (by kernel_rfl) λ_=>by kernel_rfl
def qaa_E(n:Nat):aG:=⟨(SN [0,1] (u2 hP (.fn 118 .nil .nil)) .nil),[SY [0] hV .nil],λd=>qaa n d⟩
def qaa_ls(n:Nat):List (Nat×aQ):= [(0,⟨[SN [0,1,7,8] (u4 hP (.fn 118 .nil .nil) hA hA) .nil],[SY [4] hV .nil,SX 0 [] .nil .nil],qaa_W0 n⟩)]
theorem qaa_ok(n:Nat):a6 Tryd.prog 84 (qaa_E n):=
 a6.bS n zz Tryd.f84 {live:= [(0,[0,1,7,8])]} (qaa_ls n) (.k (qz_ok n) .e) (.k (λ_=>rfl) (λ_=>by kernel_rfl) .e) (by kernel_rfl) (by kernel_rfl) λ_=>by kernel_rfl
def ql_E(n:Nat):aG:=⟨(SN [0,1] (u2 hP (.fn 118 .nil .nil)) .nil),[SY [0] hC .nil],λd=>ql n d⟩
theorem ql_ok(n:Nat):a6 Tryd.prog 51 (ql_E n):=
 a6.bS n zz Tryd.f51 {} [] (.k (qaa_ok n) .e) .e (by kernel_rfl) (by kernel_rfl) λ_=>by kernel_rfl
def qae_E(n:Nat):aG:=⟨(SN [0,1] (u2 VX hA) .nil),[SY [0] hC .nil],λd=>qae n d.1.1 d.1.2.1 d.1.2.2.1 d.1.2.2.2.1 d.1.2.2.2.2 d.2⟩
theorem qae_ok(n:Nat):a6 Tryd.prog 102 (qae_E n):=
 a6.bS n zz Tryd.f102 {} [] (.k (qax_ok n) (.k (qcn_ok n) (.k (ql_ok n) .e))) .e (by kernel_rfl) (by kernel_rfl) λ_=>by kernel_rfl
def qap_E(n:Nat):aG:=⟨(SN [0,1] (u2 VX hU) yS),[SY [0] hC yS],λd=>qap n d.1.1 d.1.2.1 d.1.2.2.1 d.1.2.2.2.1 d.1.2.2.2.2 d.2⟩
theorem qap_ok(n:Nat):a6 Tryd.prog 101 (qap_E n):=
 a6.bS n zz Tryd.f101 {} [] (.k (qae_ok n) .e) .e (by kernel_rfl) (by kernel_rfl) λ_=>by kernel_rfl
def qab_E(n:Nat):aG:=⟨(SN [0,1] (u2 hK (.fn 101 .nil HC)) yS),[SY [0] hV yS],λd=>qab n d.1 d.2⟩
def qab_ls(n:Nat):List (Nat×aQ):= [(0,⟨[SN [0,1,7,8] (u4 hK (.fn 101 .nil HC) hA hA) yS],[SY [4] hV yS,SX 0 [] .nil yS],qab_W0 n⟩)]
theorem qab_ok(n:Nat):a6 Tryd.prog 117 (qab_E n):=
 a6.bS n zz Tryd.f117 {live:= [(0,[0,1,7,8])]} (qab_ls n) (.k (qap_ok n) .e) (.k (λ_=>rfl) (λ_=>by kernel_rfl) .e) (by kernel_rfl) (by kernel_rfl) λ_=>by kernel_rfl
def qp_E(n:Nat):aG:=⟨(SN [0,1] (u2 hK (.fn 101 .nil HC)) yS),[SY [0] hC yS],λd=>qp n d.1 d.2⟩
theorem qp_ok(n:Nat):a6 Tryd.prog 100 (qp_E n):=
 a6.bS n zz Tryd.f100 {} [] (.k (qab_ok n) .e) .e (by kernel_rfl) (by kernel_rfl) λ_=>by kernel_rfl
def qar_E(n:Nat):aG:=⟨(SN [0,1] (u2 (.agg (u3 hO hA hA)) hU) yS),[SY [0] hC yS],λd=>qar n d.1.1 d.1.2.1 d.1.2.2 d.2⟩
theorem qar_ok(n:Nat):a6 Tryd.prog 103 (qar_E n):=
 a6.bS n zz Tryd.f103 {} [] (.k (qax_ok n) (.k (qcn_ok n) .e)) .e (by kernel_rfl) (by kernel_rfl) λ_=>by kernel_rfl
def qy_E(n:Nat):aG:=⟨(SN [0,1] (u2 hL (.fn 103 .nil HC)) yS),[SY [0] hV yS],λd=>qy n d.1 d.2⟩
def qy_ls(n:Nat):List (Nat×aQ):= [(0,⟨[SN [0,1,7,8] (u4 hL (.fn 103 .nil HC) hA hA) yS],[SY [4] hV yS,SX 0 [] .nil yS],qy_W0 n⟩)]
theorem qy_ok(n:Nat):a6 Tryd.prog 86 (qy_E n):=
 a6.bS n zz Tryd.f86 {live:= [(0,[0,1,7,8])]} (qy_ls n) (.k (qar_ok n) .e) (.k (λ_=>rfl) (λ_=>by kernel_rfl) .e) (by kernel_rfl) (by kernel_rfl) λ_=>by kernel_rfl
def qi_E(n:Nat):aG:=⟨(SN [0,1] (u2 hL (.fn 103 .nil HC)) yS),[SY [0] hC yS],λd=>qi n d.1 d.2⟩
theorem qi_ok(n:Nat):a6 Tryd.prog 57 (qi_E n):=
 a6.bS n zz Tryd.f57 {} [] (.k (qy_ok n) .e) .e (by kernel_rfl) (by kernel_rfl) λ_=>by kernel_rfl
def qas_E(n:Nat):aG:=⟨(SN [0] (u1 .str) .nil),[SY [0] hC .nil],λd=>qas n d⟩
theorem qas_ok(n:Nat):a6 Tryd.prog 106 (qas_E n):=
 a6.bS n zz Tryd.f106 {} [] .e .e (by kernel_rfl) (by kernel_rfl) λ_=>by kernel_rfl
def qu_E(n:Nat):aG:=⟨(SN [0,1] (u2 hM (.fn 106 .nil .nil)) .nil),[SY [0] hV .nil],λd=>qu n d⟩
def qu_ls(n:Nat):List (Nat×aQ):= [(0,⟨[SN [0,1,7,8] (u4 hM (.fn 106 .nil .nil) hA hA) .nil],[SY [4] hV .nil,SX 0 [] .nil .nil],qu_W0 n⟩)]
theorem qu_ok(n:Nat):a6 Tryd.prog 119 (qu_E n):=
 a6.bS n zz Tryd.f119 {live:= [(0,[0,1,7,8])]} (qu_ls n) (.k (qas_ok n) .e) (.k (λ_=>rfl) (λ_=>by kernel_rfl) .e) (by kernel_rfl) (by kernel_rfl) λ_=>by kernel_rfl
def qj_E(n:Nat):aG:=⟨(SN [0,1] (u2 hM (.fn 106 .nil .nil)) .nil),[SY [0] hC .nil],λd=>qj n d⟩
theorem qj_ok(n:Nat):a6 Tryd.prog 105 (qj_E n):=
 a6.bS n zz Tryd.f105 {} [] (.k (qu_ok n) .e) .e (by kernel_rfl) (by kernel_rfl) λ_=>by kernel_rfl
def qbg_E(n:Nat):aG:=⟨(SN [0] KG .nil),[SY [0] hC .nil],λd=>qbg n d.1 d.2.1 d.2.2.1 d.2.2.2.1 d.2.2.2.2⟩
theorem qbg_ok(n:Nat):a6 Tryd.prog 76 (qbg_E n):=
 a6.bS n zz Tryd.f76 {} [] (.k (qg_ok n) (.k (qp_ok n) (.k (qi_ok n) (.k (qj_ok n) .e)))) .e (by kernel_rfl) (by kernel_rfl) λ_=>by kernel_rfl
def qn_E(n:Nat):aG:=⟨(SN [0,1] VS (u1 (.bcells 0 false 1 (u1 .nilS)))),[SY [0] hW Qo],λd=>qn n d⟩
theorem qn_ok(n:Nat):a6 Tryd.prog 108 (qn_E n):=
 a6.bS n zz Tryd.f108 {boxed:= [(0,8)]} [] (.k (qdd_ok n) .e) .e (by kernel_rfl) (by kernel_rfl) λ_=>by kernel_rfl
def qd_E(n:Nat):aG:=⟨(SN [0,1] VS Qo),[SY [0] hW WY],λd=>qd n d.1 d.2⟩
theorem qd_ok(n:Nat):a6 Tryd.prog 108 (qd_E n):=
 a6.bS n zz Tryd.f108 {boxed:= [(0,8)]} [] (.k (qdd_ok n) .e) .e (by kernel_rfl) (by kernel_rfl) λ_=>by kernel_rfl
def qcx_E(n:Nat):aG:=⟨(SN [0] S0 .nil),[SY [0] Sd .nil],λd=>qcx n d.1 d.2⟩
theorem qcx_ok(n:Nat):a6 Tryd.prog 110 (qcx_E n):=
 a6.bS n zz Tryd.f110 {raw:= [(1,4)]} [] (.k (qdd_ok n) .e) .e (by kernel_rfl) (by kernel_rfl) λ_=>by kernel_rfl
def qk_E(n:Nat):aG:=⟨(SN [0,1] (u2 hU hO) Qo),[SY [0] hW WY],λd=>qk n d.1 d.2⟩
def qk_ls(n:Nat):List (Nat×aQ):= [(0,⟨[SN [0,10,11,12] (u4 hU hO hA hA) WY],[SX 0 [] .nil WY],qk_W0 n⟩)]
theorem qk_ok(n:Nat):a6 Tryd.prog 109 (qk_E n):=
 a6.bS n zz Tryd.f109 {live:= [(0,[0,10,11,12])],boxed:= [(4,7)]} (qk_ls n) (.k (qd_ok n) (.k (qcx_ok n) .e)) (.k (λ_=>rfl) (λ_=>by kernel_rfl) .e) (by kernel_rfl) (by kernel_rfl) λ_=>by kernel_rfl
def qag_E(n:Nat):aG:=⟨(SN [0] KG .nil),[SY [0] Sd .nil],λd=>qag n d.1 d.2.1 d.2.2.1 d.2.2.2.1 d.2.2.2.2⟩
def qag_ls(n:Nat):List (Nat×aQ):= [(0,⟨[SN [3,14,15,16] (u4 hU hJ hA hA) Qo],[SX 0 [3] HC Qo],qag_W0 n⟩)]
theorem qag_ok(n:Nat):a6 Tryd.prog 78 (qag_E n):=
 a6.bS n zz Tryd.f78 {live:= [(0,[3,14,15,16])]} (qag_ls n) (.k (qn_ok n) (.k (qk_ok n) .e)) (.k (λ_=>rfl) (λ_=>by kernel_rfl) .e) (by kernel_rfl) (by kernel_rfl) λ_=>by kernel_rfl
def qv_E(n:Nat):aG:=⟨(SN [0] KG .nil),[SY [0] Sd .nil],λd=>qv n d.1 d.2.1 d.2.2.1 d.2.2.2.1 d.2.2.2.2⟩
def qv_ls(n:Nat):List (Nat×aQ):= [(2,⟨[SN [3,16,17,18,47,48,49] (u7 hU hK hA hA hP hA hA) Qo],[SX 2 [3,16,17,18] Xb Qo],qv_W2 n⟩),(0,⟨[SN [3,16,17,18] Xb Qo],[SX 0 [3] HC Qo],qv_W0 n⟩)]
theorem qv_ok(n:Nat):a6 Tryd.prog 79 (qv_E n):=
 a6.bS n zz Tryd.f79 {live:= [(0,[3,16,17,18]),(2,[3,16,17,18,47,48,49])],boxed:= [(7,8),(13,7)]} (qv_ls n) (.k (qn_ok n) (.k (qd_ok n) (.k (qk_ok n) (.k (qcx_ok n) (.k (qcw_ok n) .e))))) (.k (λ_=>rfl) (λ_=>by kernel_rfl) (.k (λ_=>rfl) (λ_=>by kernel_rfl) .e)) (by kernel_rfl) (by kernel_rfl) λ_=>by kernel_rfl
def qad_E(n:Nat):aG:=⟨(SN [0] KG .nil),[SY [0] Sd .nil],λd=>qad n d.1 d.2.1 d.2.2.1 d.2.2.2.1 d.2.2.2.2⟩
def qad_ls(n:Nat):List (Nat×aQ):= [(0,⟨[SN [3,14,15,16] (u4 hU hL hA hA) Qo],[SX 0 [3] HC Qo],qad_W0 n⟩)]
theorem qad_ok(n:Nat):a6 Tryd.prog 80 (qad_E n):=
 a6.bS n zz Tryd.f80 {live:= [(0,[3,14,15,16])],boxed:= [(7,8)]} (qad_ls n) (.k (qn_ok n) (.k (qk_ok n) (.k (qcx_ok n) .e))) (.k (λ_=>rfl) (λ_=>by kernel_rfl) .e) (by kernel_rfl) (by kernel_rfl) λ_=>by kernel_rfl
def qcr_E(n:Nat):aG:=⟨(SN [0,1] (u2 hB hA) .nil),[SY [0] Sd .nil],λd=>qcr n d.1 d.2⟩
def qcr_ls(n:Nat):List (Nat×aQ):= [(0,⟨[SN [0,5,9,10] (u4 hB hG hA hA) O2],[SX 0 [5] TQ O2],qcr_W0 n⟩)]
theorem qcr_ok(n:Nat):a6 Tryd.prog 112 (qcr_E n):=
 a6.bS n zz Tryd.f112 {live:= [(0,[0,5,9,10])],boxed:= [(1,0),(5,7)]} (qcr_ls n) .e (.k (λ_=>rfl) (λ_=>by kernel_rfl) .e) (by kernel_rfl) (by kernel_rfl) λ_=>by kernel_rfl
def qac_E(n:Nat):aG:=⟨(SN [0] KG .nil),[SY [0] Sd .nil],λd=>qac n d.1 d.2.1 d.2.2.1 d.2.2.2.1 d.2.2.2.2⟩
def qac_ls(n:Nat):List (Nat×aQ):= [(0,⟨[SN [3,14,15,16] (u4 hU hY hA hA) Qo],[SX 0 [3] HC Qo],qac_W0 n⟩)]
theorem qac_ok(n:Nat):a6 Tryd.prog 81 (qac_E n):=
 a6.bS n zz Tryd.f81 {live:= [(0,[3,14,15,16])],boxed:= [(6,7)]} (qac_ls n) (.k (qn_ok n) (.k (qcr_ok n) .e)) (.k (λ_=>rfl) (λ_=>by kernel_rfl) .e) (by kernel_rfl) (by kernel_rfl) λ_=>by kernel_rfl
def qam_E(n:Nat):aG:=⟨(SN [0] KG .nil),[SY [0] Sd .nil],λd=>qam n d.1 d.2.1 d.2.2.1 d.2.2.2.1 d.2.2.2.2⟩
def qam_ls(n:Nat):List (Nat×aQ):= [(0,⟨[SN [3,14,15,16] (u4 hU hM hA hA) Qo],[SX 0 [3] HC Qo],qam_W0 n⟩)]
theorem qam_ok(n:Nat):a6 Tryd.prog 82 (qam_E n):=
 a6.bS n zz Tryd.f82 {live:= [(0,[3,14,15,16])],boxed:= [(7,6)]} (qam_ls n) (.k (qn_ok n) (.k (qd_ok n) .e)) (.k (λ_=>rfl) (λ_=>by kernel_rfl) .e) (by kernel_rfl) (by kernel_rfl) λ_=>by kernel_rfl
def qco_E(n:Nat):aG:=⟨(SN [0] (u1 hQ) .nil),[SY [0] Sd .nil],λd=>qco n d⟩
def qco_ls(n:Nat):List (Nat×aQ):= [(0,⟨[SN [3,10,11,12] (u4 hG hQ hA hA) O2],[SX 0 [3] TQ O2],qco_W0 n⟩)]
theorem qco_ok(n:Nat):a6 Tryd.prog 77 (qco_E n):=
 a6.bS n zz Tryd.f77 {live:= [(0,[3,10,11,12])],boxed:= [(5,5),(6,2)],raw:= [(1,3)]} (qco_ls n) (.k (qdd_ok n) .e) (.k (λ_=>rfl) (λ_=>by kernel_rfl) .e) (by kernel_rfl) (by kernel_rfl) λ_=>by kernel_rfl
def qal_E(n:Nat):aG:=⟨(SN [0] KG .nil),[SY [0] (u1 (.tup (u2 Xa hA))) .nil],λd=>qal n d.1 d.2.1 d.2.2.1 d.2.2.2.1 d.2.2.2.2⟩
theorem qal_ok(n:Nat):a6 Tryd.prog 48 (qal_E n):=
 a6.bS n zz Tryd.f48 {} [] (.k (qbg_ok n) (.k (qag_ok n) (.k (qv_ok n) (.k (qad_ok n) (.k (qac_ok n) (.k (qam_ok n) (.k (qco_ok n) .e))))))) .e (by kernel_rfl) (by kernel_rfl) λ_=>by kernel_rfl
def qbr_E(n:Nat):aG:=⟨(SN [0,1] Ut .nil),[SY [0] hC .nil],λd=>qbr n d.1 d.2⟩
theorem qbr_ok(n:Nat):a6 Tryd.prog 83 (qbr_E n):=
 a6.bS n zz Tryd.f83 {} [] .e .e (by kernel_rfl) (by kernel_rfl) λ_=>by kernel_rfl
def qbu_E(n:Nat):aG:=⟨(SN [0,1,2] Xl .nil),[SY [0] hC .nil],λd=>qbu n d.1.1 d.1.2.1 d.1.2.2.1 d.1.2.2.2.1 d.1.2.2.2.2 d.2.1.1 d.2.1.2.1 d.2.1.2.2.1 d.2.1.2.2.2.1 d.2.1.2.2.2.2 d.2.2.1 d.2.2.2.1 d.2.2.2.2⟩
theorem qbu_ok(n:Nat):a6 Tryd.prog 50 (qbu_E n):=
 a6.bS n zz Tryd.f50 {} [] (.k (qbr_ok n) .e) .e (by kernel_rfl) (by kernel_rfl) λ_=>by kernel_rfl
def qbe_E(n:Nat):aG:=⟨(SN [0,1,2] (u3 VU hU hX) KI),[SY [0] hC KI],λd=>qbe n d.1.1 d.1.2.1 d.1.2.2 d.2.1.1 d.2.1.2.1 d.2.1.2.2.1 d.2.1.2.2.2.1 d.2.1.2.2.2.2 d.2.2.1 d.2.2.2.1 d.2.2.2.2.1 d.2.2.2.2.2.1 d.2.2.2.2.2.2⟩
theorem qbe_ok(n:Nat):a6 Tryd.prog 49 (qbe_E n):=
 a6.bS n zz Tryd.f49 {} [] (.k (qbu_ok n) .e) .e (by kernel_rfl) (by kernel_rfl) λ_=>by kernel_rfl
def qq_E(n:Nat):aG:=⟨(SN [0,1] XG KI),[SY [0] hV KI],λd=>qq n d.1 d.2.1.1 d.2.1.2.1 d.2.1.2.2.1 d.2.1.2.2.2.1 d.2.1.2.2.2.2 d.2.2.1 d.2.2.2.1 d.2.2.2.2.1 d.2.2.2.2.2.1 d.2.2.2.2.2.2⟩
def qq_ls(n:Nat):List (Nat×aQ):= [(0,⟨[SN [0,1,7,8] (u4 hP (.fn 49 .nil (u2 hU hX)) hA hA) KI],[SY [4] hV KI,SX 0 [] .nil KI],qq_W0 n⟩)]
theorem qq_ok(n:Nat):a6 Tryd.prog 84 (qq_E n):=
 a6.bS n zz Tryd.f84 {live:= [(0,[0,1,7,8])]} (qq_ls n) (.k (qbe_ok n) .e) (.k (λ_=>rfl) (λ_=>by kernel_rfl) .e) (by kernel_rfl) (by kernel_rfl) λ_=>by kernel_rfl
def qe_E(n:Nat):aG:=⟨(SN [0,1] XG KI),[SY [0] hC KI],λd=>qe n d.1 d.2.1.1 d.2.1.2.1 d.2.1.2.2.1 d.2.1.2.2.2.1 d.2.1.2.2.2.2 d.2.2.1 d.2.2.2.1 d.2.2.2.2.1 d.2.2.2.2.2.1 d.2.2.2.2.2.2⟩
theorem qe_ok(n:Nat):a6 Tryd.prog 51 (qe_E n):=
 a6.bS n zz Tryd.f51 {} [] (.k (qq_ok n) .e) .e (by kernel_rfl) (by kernel_rfl) λ_=>by kernel_rfl
def qbf_E(n:Nat):aG:=⟨(SN [0] S0 .nil),[SY [0] hC .nil],λd=>qbf n d.1 d.2⟩
theorem qbf_ok(n:Nat):a6 Tryd.prog 53 (qbf_E n):=
 a6.bS n zz Tryd.f53 {} [] .e .e (by kernel_rfl) (by kernel_rfl) λ_=>by kernel_rfl
def qt_E(n:Nat):aG:=⟨(SN [0,1] (u2 hO (.fn 53 .nil .nil)) .nil),[SY [0] hV .nil],λd=>qt n d⟩
def qt_ls(n:Nat):List (Nat×aQ):= [(0,⟨[SN [0,1,7,8] (u4 hO (.fn 53 .nil .nil) hA hA) .nil],[SY [4] hV .nil,SX 0 [] .nil .nil],qt_W0 n⟩)]
theorem qt_ok(n:Nat):a6 Tryd.prog 85 (qt_E n):=
 a6.bS n zz Tryd.f85 {live:= [(0,[0,1,7,8])]} (qt_ls n) (.k (qbf_ok n) .e) (.k (λ_=>rfl) (λ_=>by kernel_rfl) .e) (by kernel_rfl) (by kernel_rfl) λ_=>by kernel_rfl
def qh_E(n:Nat):aG:=⟨(SN [0,1] (u2 hO (.fn 53 .nil .nil)) .nil),[SY [0] hC .nil],λd=>qh n d⟩
theorem qh_ok(n:Nat):a6 Tryd.prog 52 (qh_E n):=
 a6.bS n zz Tryd.f52 {} [] (.k (qt_ok n) .e) .e (by kernel_rfl) (by kernel_rfl) λ_=>by kernel_rfl
def qck_E(n:Nat):aG:=⟨(SN [0] S0 .nil),[SY [0] hC .nil],λd=>qck n d.1 d.2⟩
theorem qck_ok(n:Nat):a6 Tryd.prog 55 (qck_E n):=
 a6.bS n zz Tryd.f55 {} [] .e .e (by kernel_rfl) (by kernel_rfl) λ_=>by kernel_rfl
def qaq_E(n:Nat):aG:=⟨(SN [0] S0 .nil),[SY [0] hC .nil],λd=>qaq n d.1 d.2⟩
theorem qaq_ok(n:Nat):a6 Tryd.prog 56 (qaq_E n):=
 a6.bS n zz Tryd.f56 {} [] (.k (qck_ok n) .e) .e (by kernel_rfl) (by kernel_rfl) λ_=>by kernel_rfl
def qx_E(n:Nat):aG:=⟨(SN [0,1] (u2 hO (.fn 56 .nil .nil)) .nil),[SY [0] hV .nil],λd=>qx n d⟩
def qx_ls(n:Nat):List (Nat×aQ):= [(0,⟨[SN [0,1,7,8] (u4 hO (.fn 56 .nil .nil) hA hA) .nil],[SY [4] hV .nil,SX 0 [] .nil .nil],qx_W0 n⟩)]
theorem qx_ok(n:Nat):a6 Tryd.prog 85 (qx_E n):=
 a6.bS n zz Tryd.f85 {live:= [(0,[0,1,7,8])]} (qx_ls n) (.k (qaq_ok n) .e) (.k (λ_=>rfl) (λ_=>by kernel_rfl) .e) (by kernel_rfl) (by kernel_rfl) λ_=>by kernel_rfl
def qf_E(n:Nat):aG:=⟨(SN [0,1] (u2 hO (.fn 56 .nil .nil)) .nil),[SY [0] hC .nil],λd=>qf n d⟩
theorem qf_ok(n:Nat):a6 Tryd.prog 52 (qf_E n):=
 a6.bS n zz Tryd.f52 {} [] (.k (qx_ok n) .e) .e (by kernel_rfl) (by kernel_rfl) λ_=>by kernel_rfl
def qbd_E(n:Nat):aG:=⟨(SN [0] (u1 (.agg (u3 hO hA hA))) .nil),[SY [0] hC .nil],λd=>qbd n d.1 d.2.1 d.2.2⟩
theorem qbd_ok(n:Nat):a6 Tryd.prog 54 (qbd_E n):=
 a6.bS n zz Tryd.f54 {} [] (.k (qck_ok n) (.k (qf_ok n) .e)) .e (by kernel_rfl) (by kernel_rfl) λ_=>by kernel_rfl
def qm_E(n:Nat):aG:=⟨(SN [0,1] (u2 hL (.fn 54 .nil .nil)) .nil),[SY [0] hV .nil],λd=>qm n d⟩
def qm_ls(n:Nat):List (Nat×aQ):= [(0,⟨[SN [0,1,7,8] (u4 hL (.fn 54 .nil .nil) hA hA) .nil],[SY [4] hV .nil,SX 0 [] .nil .nil],qm_W0 n⟩)]
theorem qm_ok(n:Nat):a6 Tryd.prog 86 (qm_E n):=
 a6.bS n zz Tryd.f86 {live:= [(0,[0,1,7,8])]} (qm_ls n) (.k (qbd_ok n) .e) (.k (λ_=>rfl) (λ_=>by kernel_rfl) .e) (by kernel_rfl) (by kernel_rfl) λ_=>by kernel_rfl
def qb_E(n:Nat):aG:=⟨(SN [0,1] (u2 hL (.fn 54 .nil .nil)) .nil),[SY [0] hC .nil],λd=>qb n d⟩
theorem qb_ok(n:Nat):a6 Tryd.prog 57 (qb_E n):=
 a6.bS n zz Tryd.f57 {} [] (.k (qm_ok n) .e) .e (by kernel_rfl) (by kernel_rfl) λ_=>by kernel_rfl
def qcc_E(n:Nat):aG:=⟨(SN [0] KG .nil),[SY [0] hV .nil],λd=>qcc n d.1 d.2.1 d.2.2.1 d.2.2.2.1 d.2.2.2.2⟩
def qcc_ls(n:Nat):List (Nat×aQ):= [(0,⟨[SN [1,18,19,20] Xb x6],[SY [2] hV KI,SX 0 [1] HC x6],qcc_W0 n⟩)]
theorem qcc_ok(n:Nat):a6 Tryd.prog 35 (qcc_E n):=
 a6.bS n zz Tryd.f35 {live:= [(0,[1,18,19,20])]} (qcc_ls n) (.k (qal_ok n) (.k (qe_ok n) (.k (qh_ok n) (.k (qb_ok n) .e)))) (.k (λ_=>rfl) (λ_=>by kernel_rfl) .e) (by kernel_rfl) (by kernel_rfl) λ_=>by kernel_rfl
def qci_E(n:Nat):aG:=⟨(SN [0] KG .nil),[SY [0] hC .nil],λd=>qci n d.1 d.2.1 d.2.2.1 d.2.2.2.1 d.2.2.2.2⟩
theorem qci_ok(n:Nat):a6 Tryd.prog 37 (qci_E n):=
 a6.bS n zz Tryd.f37 {} [] (.k (qcc_ok n) .e) .e (by kernel_rfl) (by kernel_rfl) λ_=>by kernel_rfl
def qby_E(n:Nat):aG:=⟨(SN [0] (u1 hO) .nil),[SY [0] TQ Vo],λd=>qby n d⟩
theorem qby_ok(n:Nat):a6 Tryd.prog 94 (qby_E n):=
 a6.b n zz Tryd.f94 {boxed:= [(0,0),(2,0),(3,0),(3,2)]} [] .e .e (by kernel_rfl) (by kernel_rfl) λd=>Eq.trans (b:=HN n d) (by kernel_rfl) (qby_amb n d)
def qcp_E(n:Nat):aG:=⟨(SN [0] TQ Vo),[SY [0] WV Vo],λd=>qcp n d⟩
theorem qcp_ok(n:Nat):a6 Tryd.prog 61 (qcp_E n):=
 a6.b n zz Tryd.f61 {boxed:= [(0,0)]} [] .e .e (by kernel_rfl) (by kernel_rfl) λ_=>by kernel_rfl
def qcz_E(n:Nat):aG:=⟨(SN [0] S0 .nil),[SY [0] hC .nil],λd=>qcz n d.1 d.2⟩
theorem qcz_ok(n:Nat):a6 Tryd.prog 90 (qcz_E n):=
 a6.bS n zz Tryd.f90 {} [] .e .e (by kernel_rfl) (by kernel_rfl) λ_=>by kernel_rfl
def qcy_E(n:Nat):aG:=⟨(SN [0,1] W0 .nil),[SY [0] hC .nil],λd=>qcy n d.1.1 d.1.2 d.2.1 d.2.2⟩
theorem qcy_ok(n:Nat):a6 Tryd.prog 59 (qcy_E n):=
 a6.bS n zz Tryd.f59 {} [] (.k (qcz_ok n) .e) .e (by kernel_rfl) (by kernel_rfl) λ_=>by kernel_rfl
def qcm_E(n:Nat):aG:=⟨(SN [0,1] W0 .nil),[SY [0] S0 .nil],λd=>qcm n d.1.1 d.1.2 d.2.1 d.2.2⟩
theorem qcm_ok(n:Nat):a6 Tryd.prog 95 (qcm_E n):=
 a6.bS n zz Tryd.f95 {} [] (.k (qcy_ok n) (.k (qcz_ok n) .e)) .e (by kernel_rfl) (by kernel_rfl) λ_=>by kernel_rfl
def qo_E(n:Nat):aG:=⟨(SN [0,1,2] (u3 hU hA hO) WD),[SY [0] hC VP,SY [0] hC WD,SY [0] hC (u3 (.bcells 0 false 1 (u8 hJ hK hL hY hM hA hH (.ms 2 0))) VQ W1),SY [0] hC W7],λd=>qo n d.1.1 d.1.2 d.2.1 d.2.2⟩
def qo_ls(n:Nat):List (Nat×aQ):= [(0,⟨[SN [0,1,7,8,50,51,52] Xt W7],[SX 0 [0,1,8] W6 W7],qo_W0 n⟩)]
theorem qo_ok(n:Nat):a6 Tryd.prog 66 (qo_E n):=
 a6.bS n zz Tryd.f66 {live:= [(0,[0,1,7,8,50,51,52])],boxed:= [(4,6),(4,7),(17,6),(17,7)],raw:= [(3,3),(3,4)],vars:= [(3,4)],tidy:= [(5,[0],[(.tmp 0,7,.tmp 0,999)]),(12,[0,1,7,8,9,10,50,51,52],[(.tmp 0,6,.tmp 1,1)]),(13,[0,1,7,8,9,11,50,51,52],[(.tmp 0,6,.tmp 1,1)]),(14,[0,1,7,9,11,50,51,52],[(.tmp 0,6,.tmp 1,1)]),(18,[0],[(.tmp 0,7,.tmp 0,999)])]} (qo_ls n) (.k (qby_ok n) (.k (qcp_ok n) (.k (qcm_ok n) .e))) (.k (λ_=>rfl) (λ_=>by kernel_rfl) .e) (by kernel_rfl) (by kernel_rfl) λ_=>by kernel_rfl
def qbs_E(n:Nat):aG:=⟨(SN [0] (u1 hO) .nil),[SY [0] (u1 hO) .nil],λd=>qbs n d⟩
theorem qbs_ok(n:Nat):a6 Tryd.prog 113 (qbs_E n):=
 a6.bS n zz Tryd.f113 {} [] .e .e (by kernel_rfl) (by kernel_rfl) λ_=>by kernel_rfl
def qcg_E(n:Nat):aG:=⟨(SN [0,1] (u2 hA hO) .nil),[SY [0] Xi .nil],λd=>qcg n d.1 d.2⟩
theorem qcg_ok(n:Nat):a6 Tryd.prog 87 (qcg_E n):=
 a6.bS n zz Tryd.f87 {} [] (.k (qbs_ok n) .e) .e (by kernel_rfl) (by kernel_rfl) λ_=>by kernel_rfl
def qca_E(n:Nat):aG:=⟨(SN [0] hV .nil),[SY [0] Xi .nil],λd=>qca n d⟩
theorem qca_ok(n:Nat):a6 Tryd.prog 88 (qca_E n):=
 a6.bS n zz Tryd.f88 {} [] (.k (qbs_ok n) .e) .e (by kernel_rfl) (by kernel_rfl) λ_=>by kernel_rfl
def qbx_E(n:Nat):aG:=⟨(SN [0,1] (u2 VX hA) .nil),[SY [0] S0 .nil],λd=>qbx n d.1.1 d.1.2.1 d.1.2.2.1 d.1.2.2.2.1 d.1.2.2.2.2 d.2⟩
theorem qbx_ok(n:Nat):a6 Tryd.prog 114 (qbx_E n):=
 a6.bS n zz Tryd.f114 {} [] .e .e (by kernel_rfl) (by kernel_rfl) λ_=>by kernel_rfl
def qbw_E(n:Nat):aG:=⟨(SN [0,1,2] Xl .nil),[SY [0] (u1 (.agg (u2 hO hO))) .nil],λd=>qbw n d.1.1 d.1.2.1 d.1.2.2.1 d.1.2.2.2.1 d.1.2.2.2.2 d.2.1.1 d.2.1.2.1 d.2.1.2.2.1 d.2.1.2.2.2.1 d.2.1.2.2.2.2 d.2.2.1 d.2.2.2.1 d.2.2.2.2⟩
theorem qbw_ok(n:Nat):a6 Tryd.prog 89 (qbw_E n):=
 a6.bS n zz Tryd.f89 {} [] (.k (qbs_ok n) (.k (qbx_ok n) .e)) .e (by kernel_rfl) (by kernel_rfl) λ_=>by kernel_rfl
def qdc_E(n:Nat):aG:=⟨(SN [0,1,2,3] (u4 UE VX VU hO) .nil),[SY [0] Xi .nil],λd=>qdc n d.1.1 d.1.2.1 d.1.2.2.1 d.1.2.2.2.1 d.1.2.2.2.2 d.2.1.1 d.2.1.2.1 d.2.1.2.2.1 d.2.1.2.2.2.1 d.2.1.2.2.2.2 d.2.2.1.1 d.2.2.1.2.1 d.2.2.1.2.2 d.2.2.2⟩
theorem qdc_ok(n:Nat):a6 Tryd.prog 58 (qdc_E n):=
 a6.bS n zz Tryd.f58 {} [] (.k (qcg_ok n) (.k (qca_ok n) (.k (qbw_ok n) .e))) .e (by kernel_rfl) (by kernel_rfl) λ_=>by kernel_rfl
def qcu_E(n:Nat):aG:=⟨(SN [0,1] (u2 VU hA) .nil),[SY [0] (u1 S3) .nil],λd=>qcu n d.1.1 d.1.2.1 d.1.2.2 d.2⟩
theorem qcu_ok(n:Nat):a6 Tryd.prog 60 (qcu_E n):=
 a6.bS n zz Tryd.f60 {} [] .e .e (by kernel_rfl) (by kernel_rfl) λ_=>by kernel_rfl
def qch_E(n:Nat):aG:=⟨(SN [0,1] (u2 .nilS hA) .nil),[SY [0] WV Vo,SY [0] (u1 .nilS) .nil],λd=>qch n d⟩
theorem qch_ok(n:Nat):a6 Tryd.prog 91 (qch_E n):=
 a6.b n zz Tryd.f91 {boxed:= [(0,0),(1,0),(3,0),(3,1),(3,3),(3,7),(4,0),(5,0),(5,1),(5,4),(5,5),(5,6),(5,9),(6,0),(6,1)]} [] .e .e (by kernel_rfl) (by kernel_rfl) λ_=>by kernel_rfl
def qbl_E(n:Nat):aG:=⟨(SN [0] (u1 hJ) .nil),[SY [0] WV Vo,SY [0] (u1 hR) .nil],λd=>qbl n d⟩
def qbl_ls(n:Nat):List (Nat×aQ):= [(0,⟨[SN [0,3,9,10,11] (u5 hJ hA hJ hA hA) .nil],[SX 0 [0,3] (u2 hJ hA) .nil],qbl_W0 n⟩),(2,⟨[SN [6,25,26,27] (u4 (.ms 0 0) hJ hA hA) Vo,SN [6,25,26,27] (u4 hG hJ hA hA) Vo,SN [6,25,26,27] (u4 .nilS hJ hA hA) .nil],[SX 2 [6] WV Vo,SX 2 [6] TQ Vo,SX 2 [6] (u1 .nilS) .nil],qbl_W2x1 n⟩)]
theorem qbl_ok(n:Nat):a6 Tryd.prog 62 (qbl_E n):=
 a6.bS n zz Tryd.f62 {live:= [(0,[0,3,9,10,11]),(2,[6,25,26,27])],boxed:= [(2,0),(4,2),(5,0),(5,1),(5,4),(6,0),(8,1),(9,0),(9,2),(10,0),(12,2),(13,0),(13,1),(13,2),(13,3),(14,1),(15,0),(15,1)],raw:= [(9,1)]} (qbl_ls n) (.k (qch_ok n) .e) (.k (λ_=>rfl) (λ_=>by kernel_rfl) (.k (λ_=>rfl) (λs=>by rcases s with s|s|s<;>kernel_rfl) .e)) (by kernel_rfl) (by kernel_rfl) λ_=>by kernel_rfl
def qbc_E(n:Nat):aG:=⟨(SN [0] (u1 hR) .nil),[SY [0] (u1 hR) .nil],λd=>qbc n d⟩
theorem qbc_ok(n:Nat):a6 Tryd.prog 61 (qbc_E n):=
 a6.b n zz Tryd.f61 {boxed:= [(0,0)]} [] .e .e (by kernel_rfl) (by kernel_rfl) λ_=>by kernel_rfl
def qbn_E(n:Nat):aG:=⟨(SN [0] (u1 hO) .nil),[SY [0] (u1 hO) .nil],λd=>qbn n d⟩
theorem qbn_ok(n:Nat):a6 Tryd.prog 61 (qbn_E n):=
 a6.b n zz Tryd.f61 {boxed:= [(0,0)]} [] .e .e (by kernel_rfl) (by kernel_rfl) λ_=>by kernel_rfl
def qcq_E(n:Nat):aG:=⟨(SN [0,1,2,3] Xk .nil),[SY [0] (u1 (.tup (u3 hR S3 hA))) .nil],λd=>qcq n d.1.1 d.1.2.1 d.1.2.2.1 d.1.2.2.2.1 d.1.2.2.2.2 d.2.1 d.2.2.1 d.2.2.2⟩
def qcq_ls(n:Nat):List (Nat×aQ):= [(0,⟨[SN [2,3,11,12,14,55,56,57] (u8 hA hO hU hX hA hO hA hA) (u2 R9 W8)],[SY [8,9,10] (u3 hR S3 hA) (u3 R9 W8 (.bcells 0 false 1 Ut)),SX 0 [2,3,11,12,14] (u5 hA hO hU hX hA) (u2 R9 W8)],qcq_W0 n⟩)]
theorem qcq_ok(n:Nat):a6 Tryd.prog 36 (qcq_E n):=
 a6.bS n zz Tryd.f36 {live:= [(0,[2,3,11,12,14,55,56,57])]} (qcq_ls n) (.k (qdc_ok n) (.k (qcy_ok n) (.k (qcu_ok n) (.k (qbl_ok n) (.k (qbc_ok n) (.k (qbn_ok n) .e)))))) (.k (λ_=>rfl) (λ_=>by kernel_rfl) .e) (by kernel_rfl) (by kernel_rfl) λ_=>by kernel_rfl
def qc_E(n:Nat):aG:=⟨(SN [0,1,2] (u3 hU hA hO) VP),[SY [0] hC (u3 (.bcells 0 false 1 (u8 hJ hK hL hY hM hA hD (.ms 2 1))) WR Xz),SY [0] hC VP,SY [0] hC VV],λd=>qc n d.1.1 d.1.2 d.2.1 d.2.2.1 d.2.2.2⟩
def qc_ls(n:Nat):List (Nat×aQ):= [(0,⟨[SN [0,1,7,8,50,51,52] Xt VV],[SX 0 [0,1,8] W6 VV],qc_W0 n⟩)]
theorem qc_ok(n:Nat):a6 Tryd.prog 66 (qc_E n):=
 a6.bS n zz Tryd.f66 {live:= [(0,[0,1,7,8,50,51,52])],boxed:= [(4,6),(4,7),(17,6),(17,7)],raw:= [(3,3),(3,4)],vars:= [(3,4)],tidy:= [(5,[0],[(.tmp 0,7,.tmp 0,999)]),(12,[0,1,7,8,9,10,50,51,52],[(.tmp 0,6,.tmp 1,1)]),(13,[0,1,7,8,9,11,50,51,52],[(.tmp 0,6,.tmp 1,1)]),(14,[0,1,7,9,11,50,51,52],[(.tmp 0,6,.tmp 1,1)]),(18,[0],[(.tmp 0,7,.tmp 0,999)])]} (qc_ls n) (.k (qby_ok n) (.k (qcp_ok n) (.k (qcm_ok n) .e))) (.k (λ_=>rfl) (λ_=>by kernel_rfl) .e) (by kernel_rfl) (by kernel_rfl) λ_=>by kernel_rfl
def qr_E(n:Nat):aG:=⟨(SN [0] HC VP),[SY [0] WG VP,SY [0] WG VV],λd=>qr n d.1 d.2.1 d.2.2⟩
def qr_ls(n:Nat):List (Nat×aQ):= [(0,⟨[SN [0,4,5,49,50,51] (u6 hU hA hR S3 hA hA) VV],[SY [2,3] Ut (u3 (.bcells 0 false 1 (u8 hJ hK hL hY hM hA hH (.ms 2 2))) VQ XC),SY [2,3] Ut VV,SY [2,3] Ut (u3 (.bcells 0 false 1 (u8 hJ hK hL hY hM hA (.msw 1 2) (.ms 2 2))) (.bos 2 false (.cons .bool (.sl true (.cons (.int .i64) (.int .i64)))) .nil) XC),SX 0 [] .nil VV],qr_W0 n⟩)]
theorem qr_ok(n:Nat):a6 Tryd.prog 67 (qr_E n):=
 a6.bS n zz Tryd.f67 {live:= [(0,[0,4,5,49,50,51])],tidy:= [(3,[0,4],[(.tmp 0,6,.tmp 4,1)])]} (qr_ls n) (.k (qcq_ok n) (.k (qc_ok n) .e)) (.k (λ_=>rfl) (λ_=>by kernel_rfl) .e) (by kernel_rfl) (by kernel_rfl) λ_=>by kernel_rfl
def qa_E(n:Nat):aG:=⟨(SN [0] HC (u1 (.bcells 0 false 1 (u8 hJ hK hL hY hM hA .nilS .nilS)))),[SY [0] WG VP,SY [0] WG WD],λd=>qa n d⟩
def qa_ls(n:Nat):List (Nat×aQ):= [(500,⟨[SN [0] HC VP,SN [0] HC WD],[SY [2,3] Ut VP,SY [2,3] Ut VV,SY [2,3] Ut WD],qa_W500x1 n⟩)]
theorem qa_ok(n:Nat):a6 Tryd.prog 39 (qa_E n):=
 a6.bS n zz Tryd.f39 {live:= [(500,[0])],own:= [(1,14)]} (qa_ls n) (.k (qo_ok n) (.k (qr_ok n) .e)) (.k (λ_=>rfl) (λs=>by rcases s with s|s<;>kernel_rfl) .e) (by kernel_rfl) (by kernel_rfl) λ_=>by kernel_rfl
def qat_E(n:Nat):aG:=⟨(SN [0] KG .nil),[SY [0] (u1 (.tup (u4 hN hA hA hA))) .nil],λd=>qat n d.1 d.2.1 d.2.2.1 d.2.2.2.1 d.2.2.2.2⟩
def qat_ls(n:Nat):List (Nat×aQ):= [(1,⟨[SN [1,2,23,24] (u4 hU hD hA hA) (u2 Co hZ)],[SY [2,3,4,5] (u4 (.msw 5 0) hA hA hA) (u6 Co hZ (.bcells 0 false 1 (u8 hJ hK hL hY hM hA hE (.ms 4 0))) WR W1 hZ),SY [2,3,4,5] (u4 hF hA hA hA) (u5 Co hZ (.bcells 0 false 1 (u8 hJ hK hL hY hM hA hE .nilS)) WR hZ),SX 1 [2] (u1 hD) (u2 Co hZ)],qat_W1 n⟩)]
theorem qat_ok(n:Nat):a6 Tryd.prog 24 (qat_E n):=
 a6.bS n zz Tryd.f24 {live:= [(1,[1,2,23,24])],boxed:= [(0,1),(3,1),(5,0),(12,3),(13,6)]} (qat_ls n) (.k (qcc_ok n) (.k (qci_ok n) (.k (qa_ok n) .e))) (.k (λ_=>rfl) (λ_=>by kernel_rfl) .e) (by kernel_rfl) (by kernel_rfl) λ_=>by kernel_rfl
def qaj_E(n:Nat):aG:=⟨(SN [] .nil .nil),[SY [0] hC .nil],λd=>qaj n⟩
theorem qaj_ok(n:Nat):a6 Tryd.prog 23 (qaj_E n):=
 a6.bS n zz Tryd.f23 {} [] (.k (qat_ok n) .e) .e (by kernel_rfl) (by kernel_rfl) λ_=>by kernel_rfl
def qct_Ed(n d:Nat):aG:=⟨(SN [0] (u1 hB) .nil),[SY [0] TQ O2],qct_D n d⟩
def qct_E(n:Nat):aG:=⟨(SN [0] (u1 hB) .nil),[SY [0] TQ O2],λd=>qct n d⟩
theorem qct_okd(n d:Nat):a6 Tryd.prog 68 (qct_Ed n d):=
 Nat.rec (a6.none (by kernel_rfl) λ_=>rfl) (λd ih=>a6.b n zz Tryd.f68 {boxed:= [(0,0),(2,2),(3,4),(3,8)]} [] (.k ih .e) .e (by kernel_rfl) (by kernel_rfl) λ_=>by kernel_rfl) d
theorem qct_ok(n:Nat):a6 Tryd.prog 68 (qct_E n):=qct_okd n n
def qce_E(n:Nat):aG:=⟨(SN [0,1] (u2 WB hA) .nil),[SY [0] hC .nil],λd=>qce n d.1.1 d.1.2 d.2⟩
theorem qce_ok(n:Nat):a6 Tryd.prog 70 (qce_E n):=
 a6.bS n zz Tryd.f70 {} [] .e .e (by kernel_rfl) (by kernel_rfl) λ_=>by kernel_rfl
def qcf_E(n:Nat):aG:=⟨(SN [0] S0 .nil),[SY [0] Sd .nil],λd=>qcf n d.1 d.2⟩
theorem qcf_ok(n:Nat):a6 Tryd.prog 71 (qcf_E n):=
 a6.bS n zz Tryd.f71 {raw:= [(6,2)]} [] (.k (qct_ok n) .e) .e (by kernel_rfl) (by kernel_rfl) λ_=>by kernel_rfl
def qak_E(n:Nat):aG:=⟨(SN [0,1,2] (u3 hO hA hA) .nil),[SY [0] (u1 (.tup WL)) .nil],λd=>qak n d.1 d.2.1 d.2.2⟩
def qak_ls(n:Nat):List (Nat×aQ):= [(0,⟨[SN [0,1,2,8,9] (u5 hO hA hA hG hA) O2],[SY [6,7] WL O2,SX 0 [0,2,8] (u3 hO hA hG) O2],qak_W0 n⟩)]
theorem qak_ok(n:Nat):a6 Tryd.prog 69 (qak_E n):=
 a6.bS n zz Tryd.f69 {live:= [(0,[0,1,2,8,9])],boxed:= [(7,6)],raw:= [(1,3)]} (qak_ls n) (.k (qct_ok n) (.k (qce_ok n) (.k (qcf_ok n) .e))) (.k (λ_=>rfl) (λ_=>by kernel_rfl) .e) (by kernel_rfl) (by kernel_rfl) λ_=>by kernel_rfl
def qbz_E(n:Nat):aG:=⟨(SN [0] hV .nil),[SY [0] hV .nil],λd=>qbz n d⟩
def qbz_ls(n:Nat):List (Nat×aQ):= [(0,⟨[SN [0,3,4] (u3 hA S3 hA) .nil],[SY [2] hV .nil,SX 0 [] .nil .nil],qbz_W0 n⟩)]
theorem qbz_ok(n:Nat):a6 Tryd.prog 96 (qbz_E n):=
 a6.bS n zz Tryd.f96 {live:= [(0,[0,3,4])]} (qbz_ls n) .e (.k (λ_=>rfl) (λ_=>by kernel_rfl) .e) (by kernel_rfl) (by kernel_rfl) λ_=>by kernel_rfl
def qbk_E(n:Nat):aG:=⟨(SN [0] (u1 VU) .nil),[SY [0] Sd .nil],λd=>qbk n d.1 d.2.1 d.2.2⟩
theorem qbk_ok(n:Nat):a6 Tryd.prog 72 (qbk_E n):=
 a6.bS n zz Tryd.f72 {boxed:= [(4,3),(6,5),(8,5)]} [] (.k (qbz_ok n) (.k (qct_ok n) .e)) .e (by kernel_rfl) (by kernel_rfl) λ_=>by kernel_rfl
def qbj_E(n:Nat):aG:=⟨(SN [0,1] (u2 hB hA) .nil),[SY [0] Sd .nil],λd=>qbj n d.1 d.2⟩
def qbj_ls(n:Nat):List (Nat×aQ):= [(0,⟨[SN [0,1,5,6] (u4 hB hA hG hA) O2],[SX 0 [5] TQ O2],qbj_W0 n⟩)]
theorem qbj_ok(n:Nat):a6 Tryd.prog 73 (qbj_E n):=
 a6.bS n zz Tryd.f73 {live:= [(0,[0,1,5,6])],boxed:= [(1,0),(5,5)]} (qbj_ls n) .e (.k (λ_=>rfl) (λ_=>by kernel_rfl) .e) (by kernel_rfl) (by kernel_rfl) λ_=>by kernel_rfl
def qbv_E(n:Nat):aG:=⟨(SN [0] (u1 hQ) .nil),[SY [0] Sd .nil],λd=>qbv n d⟩
def qbv_ls(n:Nat):List (Nat×aQ):= [(0,⟨[SN [0,3,4] (u3 hQ hG hA) O2],[SX 0 [3] TQ O2],qbv_W0 n⟩)]
theorem qbv_ok(n:Nat):a6 Tryd.prog 74 (qbv_E n):=
 a6.bS n zz Tryd.f74 {live:= [(0,[0,3,4])],boxed:= [(5,8),(5,13)],raw:= [(1,3)]} (qbv_ls n) (.k (qct_ok n) .e) (.k (λ_=>rfl) (λ_=>by kernel_rfl) .e) (by kernel_rfl) (by kernel_rfl) λ_=>by kernel_rfl
def qau_E(n:Nat):aG:=⟨(SN [0] KG .nil),[SY [0] (u1 (.tup WL)) .nil],λd=>qau n d.1 d.2.1 d.2.2.1 d.2.2.2.1 d.2.2.2.2⟩
def qau_ls(n:Nat):List (Nat×aQ):= [(0,⟨[SN [1,4,5,6,7] (u5 hU hA .bool hD hA) (u2 Co CA)],[SX 0 [1,4,5,6] (u4 hU hA .bool hD) (u2 Co CA)],qau_W0 n⟩),(4,⟨[SN [1,4,5,6,10,11,12,17] (u8 hU hA .bool hD hI hA (.ptr 3 0 0 0) hA) WT],[SY [2,3] WL WT,SX 4 [1,4,5,6,10,11] (u6 hU hA .bool hD hI hA) WT],qau_W4 n⟩),(2,⟨[SN [1,4,5,6,10,11] (u6 hU hA .bool hD hI hA) (u3 Co CA CA)],[SY [2,3] WL WT,SX 2 [1,4,5,6,10] (u5 hU hA .bool hD hI) (u3 Co CA CA)],qau_W2 n⟩),(6,⟨[SN [1,4,5,6,10,19,20] (u7 hU hA .bool hD hI hE hA) (u4 Co CA CA CA)],[SX 6 [1,5,6,10,19] (u5 hU .bool hD hI hE) (u4 Co CA CA CA)],qau_W6 n⟩),(8,⟨[SN [1,5,6,10,19,23,24] (u7 hU .bool hD hI hE hF hA) (u5 Co CA CA CA CA)],[SX 8 [1,5,6,10,19,23] (u6 hU .bool hD hI hE hF) (u5 Co CA CA CA CA)],qau_W8 n⟩),(10,⟨[SN [1,5,6,10,19,23,25,26] (u8 hU .bool hD hI hE hF (.msw 5 0) hA) XA],[SX 10 [5,6,10,19,23,25] (u6 .bool hD hI hE hF (.msw 5 0)) XA],qau_W10 n⟩)]
theorem qau_ok(n:Nat):a6 Tryd.prog 40 (qau_E n):=
 a6.bS n zz Tryd.f40 {live:= [(0,[1,4,5,6,7]),(2,[1,4,5,6,10,11]),(4,[1,4,5,6,10,11,12,17]),(6,[1,4,5,6,10,19,20]),(8,[1,5,6,10,19,23,24]),(10,[1,5,6,10,19,23,25,26])],boxed:= [(10,2),(21,2),(21,6),(21,8),(21,14),(28,2),(35,2),(35,10),(40,7),(46,9),(46,15)],raw:= [(5,2),(11,4),(29,4),(36,4),(41,4)]} (qau_ls n) (.k (qct_ok n) (.k (qak_ok n) (.k (qce_ok n) (.k (qcf_ok n) (.k (qbk_ok n) (.k (qbj_ok n) (.k (qbv_ok n) .e))))))) (.k (λ_=>rfl) (λ_=>by kernel_rfl) (.k (λ_=>rfl) (λ_=>by kernel_rfl) (.k (λ_=>rfl) (λ_=>by kernel_rfl) (.k (λ_=>rfl) (λ_=>by kernel_rfl) (.k (λ_=>rfl) (λ_=>by kernel_rfl) (.k (λ_=>rfl) (λ_=>by kernel_rfl) .e)))))) (by kernel_rfl) (by kernel_rfl) λ_=>by kernel_rfl
def qbi_E(n:Nat):aG:=⟨(SN [0,1,2] Xl .nil),[SY [0] hC .nil],λd=>qbi n d.1.1 d.1.2.1 d.1.2.2.1 d.1.2.2.2.1 d.1.2.2.2.2 d.2.1.1 d.2.1.2.1 d.2.1.2.2.1 d.2.1.2.2.2.1 d.2.1.2.2.2.2 d.2.2.1 d.2.2.2.1 d.2.2.2.2⟩
theorem qbi_ok(n:Nat):a6 Tryd.prog 41 (qbi_E n):=
 a6.bS n zz Tryd.f41 {} [] .e .e (by kernel_rfl) (by kernel_rfl) λ_=>by kernel_rfl
def qbq_E(n:Nat):aG:=⟨(SN [0] S0 .nil),[SY [0] hC .nil],λd=>qbq n d.1 d.2⟩
theorem qbq_ok(n:Nat):a6 Tryd.prog 42 (qbq_E n):=
 a6.bS n zz Tryd.f42 {} [] .e .e (by kernel_rfl) (by kernel_rfl) λ_=>by kernel_rfl
def qbm_E(n:Nat):aG:=⟨(SN [0] KG .nil),[SY [0] hV .nil],λd=>qbm n d.1 d.2.1 d.2.2.1 d.2.2.2.1 d.2.2.2.2⟩
def qbm_ls(n:Nat):List (Nat×aQ):= [(2,⟨[SN [1,5,6,7] (u4 hU hA hX hA) KI],[SY [2] hV KI,SX 2 [1,5,6] (u3 hU hA hX) KI],qbm_W2 n⟩),(4,⟨[SN [1,5,6,8] (u4 hU hA hX hA) KI],[SY [2] hV KI,SX 4 [1,5] VS KI],qbm_W4 n⟩),(0,⟨[SN [1,5] VS x6],[SY [2] hV KI,SX 0 [1] HC x6],qbm_W0 n⟩),(8,⟨[SN [1,9,10,11] (u4 hU hA .bool hA) x6],[SX 8 [1,9,10] W6 x6],qbm_W8 n⟩),(6,⟨[SN [1,9] VS x6],[SY [2] hV x6,SX 6 [] .nil x6],qbm_W6 n⟩)]
theorem qbm_ok(n:Nat):a6 Tryd.prog 25 (qbm_E n):=
 a6.bS n zz Tryd.f25 {live:= [(0,[1,5]),(2,[1,5,6,7]),(4,[1,5,6,8]),(6,[1,9]),(8,[1,9,10,11])]} (qbm_ls n) (.k (qau_ok n) (.k (qbi_ok n) (.k (qbq_ok n) .e))) (.k (λ_=>rfl) (λ_=>by kernel_rfl) (.k (λ_=>rfl) (λ_=>by kernel_rfl) (.k (λ_=>rfl) (λ_=>by kernel_rfl) (.k (λ_=>rfl) (λ_=>by kernel_rfl) (.k (λ_=>rfl) (λ_=>by kernel_rfl) .e))))) (by kernel_rfl) (by kernel_rfl) λ_=>by kernel_rfl
def qcb_E(n:Nat):aG:=⟨(SN [0] KG .nil),[SY [0] hC .nil],λd=>qcb n d.1 d.2.1 d.2.2.1 d.2.2.2.1 d.2.2.2.2⟩
theorem qcb_ok(n:Nat):a6 Tryd.prog 19 (qcb_E n):=
 a6.bS n zz Tryd.f19 {} [] (.k (qbm_ok n) .e) .e (by kernel_rfl) (by kernel_rfl) λ_=>by kernel_rfl
def qav_E(n:Nat):aG:=⟨(SN [0,1] (u2 VX hA) .nil),[SY [0] S0 .nil],λd=>qav n d.1.1 d.1.2.1 d.1.2.2.1 d.1.2.2.2.1 d.1.2.2.2.2 d.2⟩
theorem qav_ok(n:Nat):a6 Tryd.prog 46 (qav_E n):=
 a6.bS n zz Tryd.f46 {boxed:= [(1,0),(1,3)]} [] .e .e (by kernel_rfl) (by kernel_rfl) λ_=>by kernel_rfl
def qbt_E(n:Nat):aG:=⟨(SN [0,1,2,3] (u4 UE VX VU hO) .nil),[SY [0] (u1 (.tup (u3 hO hR .bool))) .nil],λd=>qbt n d.1.1 d.1.2.1 d.1.2.2.1 d.1.2.2.2.1 d.1.2.2.2.2 d.2.1.1 d.2.1.2.1 d.2.1.2.2.1 d.2.1.2.2.2.1 d.2.1.2.2.2.2 d.2.2.1.1 d.2.2.1.2.1 d.2.2.1.2.2 d.2.2.2⟩
theorem qbt_ok(n:Nat):a6 Tryd.prog 32 (qbt_E n):=
 a6.bS n zz Tryd.f32 {} [] (.k (qav_ok n) .e) .e (by kernel_rfl) (by kernel_rfl) λ_=>by kernel_rfl
def qcs_E(n:Nat):aG:=⟨(SN [0] S0 .nil),[SY [0] hC .nil],λd=>qcs n d.1 d.2⟩
theorem qcs_ok(n:Nat):a6 Tryd.prog 44 (qcs_E n):=
 a6.bS n zz Tryd.f44 {} [] .e .e (by kernel_rfl) (by kernel_rfl) λ_=>by kernel_rfl
def qcl_E(n:Nat):aG:=⟨(SN [0,1] W0 .nil),[SY [0] hC .nil],λd=>qcl n d.1.1 d.1.2 d.2.1 d.2.2⟩
theorem qcl_ok(n:Nat):a6 Tryd.prog 43 (qcl_E n):=
 a6.bS n zz Tryd.f43 {} [] (.k (qcs_ok n) .e) .e (by kernel_rfl) (by kernel_rfl) λ_=>by kernel_rfl
def qcd_E(n:Nat):aG:=⟨(SN [0,1,2,3] Xk .nil),[SY [0] (u1 (.tup (u3 hR S3 hA))) .nil],λd=>qcd n d.1.1 d.1.2.1 d.1.2.2.1 d.1.2.2.2.1 d.1.2.2.2.2 d.2.1 d.2.2.1 d.2.2.2⟩
def qcd_ls(n:Nat):List (Nat×aQ):= [(0,⟨[SN [2,3,11,12,13,14,16,17] (u8 hA hO hU hX hO hR hA hA) (u2 R9 Wr)],[SY [8,9,10] (u3 hR S3 hA) (u2 R9 Wr),SX 0 [2,3,11,12,14,16] (u6 hA hO hU hX hR hA) (u2 R9 Wr)],qcd_W0 n⟩)]
theorem qcd_ok(n:Nat):a6 Tryd.prog 34 (qcd_E n):=
 a6.bS n zz Tryd.f34 {live:= [(0,[2,3,11,12,13,14,16,17])],boxed:= [(12,0),(12,4)]} (qcd_ls n) (.k (qbt_ok n) (.k (qcl_ok n) .e)) (.k (λ_=>rfl) (λ_=>by kernel_rfl) .e) (by kernel_rfl) (by kernel_rfl) λ_=>by kernel_rfl
def qaw_E(n:Nat):aG:=⟨(SN [0,1] W0 .nil),[SY [0] S0 .nil],λd=>qaw n d.1.1 d.1.2 d.2.1 d.2.2⟩
theorem qaw_ok(n:Nat):a6 Tryd.prog 29 (qaw_E n):=
 a6.bS n zz Tryd.f29 {} [] (.k (qcl_ok n) (.k (qcs_ok n) .e)) .e (by kernel_rfl) (by kernel_rfl) λ_=>by kernel_rfl
def qba_E(n:Nat):aG:=⟨(SN [0,1] (u2 hO hO) .nil),[SY [0] hC .nil],λd=>qba n d.1 d.2⟩
def qba_ls(n:Nat):List (Nat×aQ):= [(0,⟨[SN [0,1,5] (u3 hO hO hA) .nil],[SY [4] hC .nil,SX 0 [] .nil .nil],qba_W0 n⟩)]
theorem qba_ok(n:Nat):a6 Tryd.prog 18 (qba_E n):=
 a6.bS n zz Tryd.f18 {live:= [(0,[0,1,5])]} (qba_ls n) .e (.k (λ_=>rfl) (λ_=>by kernel_rfl) .e) (by kernel_rfl) (by kernel_rfl) λ_=>by kernel_rfl
def qbp_E(n:Nat):aG:=⟨(SN [0] KG .nil),[SY [0] (u1 (.tup WM)) .nil],λd=>qbp n d.1 d.2.1 d.2.2.1 d.2.2.2.1 d.2.2.2.2⟩
def qbp_ls(n:Nat):List (Nat×aQ):= [(8,⟨[SN [1,4,5,6,7,8,9,10,12,13,14,15] (.cons hU (.cons hD (.cons hA (u9 hI .bool hA hR S3 hA (.ptrI 2 0 0) hE hA)))) (u4 Co hZ W2 Xe)],[SX 8 [1,4,5,6,7,8,9,10,12,13,14] (.cons hU (.cons hD (u9 hA hI .bool hA hR S3 hA (.ptrI 2 0 0) hE))) (u4 Co hZ W2 Xe)],qbp_W8 n⟩),(6,⟨[SN [1,4,5,6,7,8,9,10,12] (u9 hU hD hA hI .bool hA hR S3 hA) UD],[SY [2,3] WM UD,SX 6 [1,4,5,6,7,8] (u6 hU hD hA hI .bool hA) UD],qbp_W6 n⟩),(4,⟨[SN [1,4,5,6,7,8] (u6 hU hD hA hI .bool hA) UD],[SY [2,3] WM UD,SX 4 [1,4,5,6,7] (u5 hU hD hA hI .bool) UD],qbp_W4 n⟩),(2,⟨[SN [1,4,5,6,7] (u5 hU hD hA hI .bool) UD],[SY [2,3] WM UD,SX 2 [1,4,5,6] (u4 hU hD hA hI) UD],qbp_W2 n⟩),(0,⟨[SN [1,4,5] (u3 hU hD hA) (u2 Co hZ)],[SY [2,3] WM UD,SX 0 [4] (u1 hD) (u2 Co hZ)],qbp_W0 n⟩)]
theorem qbp_ok(n:Nat):a6 Tryd.prog 21 (qbp_E n):=
 a6.bS n zz Tryd.f21 {live:= [(0,[1,4,5]),(2,[1,4,5,6,7]),(4,[1,4,5,6,7,8]),(6,[1,4,5,6,7,8,9,10,12]),(8,[1,4,5,6,7,8,9,10,12,13,14,15])],boxed:= [(1,0),(5,7),(25,0),(25,5),(32,3)]} (qbp_ls n) (.k (qcd_ok n) (.k (qaw_ok n) (.k (qba_ok n) .e))) (.k (λ_=>rfl) (λ_=>by kernel_rfl) (.k (λ_=>rfl) (λ_=>by kernel_rfl) (.k (λ_=>rfl) (λ_=>by kernel_rfl) (.k (λ_=>rfl) (λ_=>by kernel_rfl) (.k (λ_=>rfl) (λ_=>by kernel_rfl) .e))))) (by kernel_rfl) (by kernel_rfl) λ_=>by kernel_rfl
def qaf_E(n:Nat):aG:=⟨(SN [0,1] (u2 hS hS) .nil),[SY [0] hC .nil],λd=>qaf n d.1 d.2⟩
def qaf_ls(n:Nat):List (Nat×aQ):= [(2,⟨[SN [0,1,5,6] (u4 hS hS hA hA) .nil],[SY [4] hC .nil,SX 2 [0,1,5] (u3 hS hS hA) .nil],qaf_W2 n⟩),(0,⟨[SN [0,1,5] (u3 hS hS hA) .nil],[SY [4] hC .nil,SX 0 [] .nil .nil],qaf_W0 n⟩)]
theorem qaf_ok(n:Nat):a6 Tryd.prog 26 (qaf_E n):=
 a6.bS n zz Tryd.f26 {live:= [(0,[0,1,5]),(2,[0,1,5,6])]} (qaf_ls n) (.k (qba_ok n) .e) (.k (λ_=>rfl) (λ_=>by kernel_rfl) (.k (λ_=>rfl) (λ_=>by kernel_rfl) .e)) (by kernel_rfl) (by kernel_rfl) λ_=>by kernel_rfl
def CM(n:Nat):aG:=⟨(SN [0] KG .nil),[SY [0] hC .nil],λd=>kQ n d.1 d.2.1 d.2.2.1 d.2.2.2.1 d.2.2.2.2⟩
theorem BX(n:Nat):a6 Tryd.prog 5 (CM n):=
 a6.bS n zz Tryd.f5 {} [] (.k (qaz_ok n) (.k (qaj_ok n) (.k (qat_ok n) (.k (qbm_ok n) (.k (qcb_ok n) (.k (qbp_ok n) (.k (qaf_ok n) .e))))))) .e (by kernel_rfl) (by kernel_rfl) λ_=>by kernel_rfl
def qbb_E(n:Nat):aG:=⟨(SN [0,1] (u2 hO hO) .nil),[SY [0] hC .nil],λd=>qbb n d.1 d.2⟩
def qbb_ls(n:Nat):List (Nat×aQ):= [(0,⟨[SN [0,1,5] (u3 hO hO hA) .nil],[SY [4] hC .nil,SX 0 [] .nil .nil],qbb_W0 n⟩)]
theorem qbb_ok(n:Nat):a6 Tryd.prog 28 (qbb_E n):=
 a6.bS n zz Tryd.f28 {live:= [(0,[0,1,5])]} (qbb_ls n) (.k (qcl_ok n) .e) (.k (λ_=>rfl) (λ_=>by kernel_rfl) .e) (by kernel_rfl) (by kernel_rfl) λ_=>by kernel_rfl
def qbh_E(n:Nat):aG:=⟨(SN [0,1] (u2 UE hS) .nil),[SY [0] hC .nil],λd=>qbh n d.1.1 d.1.2.1 d.1.2.2.1 d.1.2.2.2.1 d.1.2.2.2.2 d.2⟩
def qbh_ls(n:Nat):List (Nat×aQ):= [(4,⟨[SN [1,2,5,6,7,8,9,11] (u8 hS hU hA (.sl true true yH) hA hR S3 hA) x6],[SY [4] hC x6,SX 4 [1,2,5,6,7] XB x6],qbh_W4 n⟩),(2,⟨[SN [1,2,5,6,7] XB x6],[SY [4] hC x6,SX 2 [1,2,5] (u3 hS hU hA) x6],qbh_W2 n⟩),(0,⟨[SN [1,2,5] (u3 hS hU hA) x6],[SY [4] hC x6,SX 0 [] .nil x6],qbh_W0 n⟩)]
theorem qbh_ok(n:Nat):a6 Tryd.prog 27 (qbh_E n):=
 a6.bS n zz Tryd.f27 {live:= [(0,[1,2,5]),(2,[1,2,5,6,7]),(4,[1,2,5,6,7,8,9,11])]} (qbh_ls n) (.k (qcb_ok n) (.k (qcd_ok n) (.k (qbb_ok n) .e))) (.k (λ_=>rfl) (λ_=>by kernel_rfl) (.k (λ_=>rfl) (λ_=>by kernel_rfl) (.k (λ_=>rfl) (λ_=>by kernel_rfl) .e))) (by kernel_rfl) (by kernel_rfl) λ_=>by kernel_rfl
def BP(n:Nat):aG:=⟨(SN [0,1] (u2 UE hS) .nil),[SY [0] hC .nil],λd=>j0 n d.1.1 d.1.2.1 d.1.2.2.1 d.1.2.2.2.1 d.1.2.2.2.2 d.2⟩
def Bi(n:Nat):List (Nat×aQ):= [(2,⟨[SN [1,5,9,10] (u4 hS hN hA hA) .nil],[SY [4] hC .nil,SX 2 [1,5,9] (u3 hS hN hA) .nil],kF n⟩),(0,⟨[SN [1,5,9] (u3 hS hN hA) .nil],[SY [4] hC .nil,SX 0 [] .nil .nil],kH n⟩)]
theorem Bg(n:Nat):a6 Tryd.prog 6 (BP n):=
 a6.bS n zz Tryd.f6 {live:= [(0,[1,5,9]),(2,[1,5,9,10])]} (Bi n) (.k (qaz_ok n) (.k (qaj_ok n) (.k (qat_ok n) (.k (qcb_ok n) (.k (qbh_ok n) (.k (qbb_ok n) .e)))))) (.k (λ_=>rfl) (λ_=>by kernel_rfl) (.k (λ_=>rfl) (λ_=>by kernel_rfl) .e)) (by kernel_rfl) (by kernel_rfl) λ_=>by kernel_rfl
def Cd(n:Nat):aG:=⟨(SN [0,1] (u2 UE hS) .nil),[SY [0] hC .nil],λd=>kB n d.1.1 d.1.2.1 d.1.2.2.1 d.1.2.2.2.1 d.1.2.2.2.2 d.2⟩
theorem Bh(n:Nat):a6 Tryd.prog 7 (Cd n):=
 a6.bS n zz Tryd.f7 {} [] (.k (qaz_ok n) (.k (qaj_ok n) (.k (qbh_ok n) (.k (qat_ok n) .e)))) .e (by kernel_rfl) (by kernel_rfl) λ_=>by kernel_rfl
def qay_E(n:Nat):aG:=⟨(SN [0,1,2,3] Xk .nil),[SY [0] WG .nil],λd=>qay n d.1.1 d.1.2.1 d.1.2.2.1 d.1.2.2.2.1 d.1.2.2.2.2 d.2.1 d.2.2.1 d.2.2.2⟩
theorem qay_ok(n:Nat):a6 Tryd.prog 75 (qay_E n):=
 a6.bS n zz Tryd.f75 {} [] (.k (qdc_ok n) .e) .e (by kernel_rfl) (by kernel_rfl) λ_=>by kernel_rfl
def qcv_E(n:Nat):aG:=⟨(SN [0] (u1 VX) .nil),[SY [0] hV .nil],λd=>qcv n d.1 d.2.1 d.2.2.1 d.2.2.2.1 d.2.2.2.2⟩
theorem qcv_ok(n:Nat):a6 Tryd.prog 47 (qcv_E n):=
 a6.bS n zz Tryd.f47 {} [] .e .e (by kernel_rfl) (by kernel_rfl) λ_=>by kernel_rfl
def V7(n:Nat):aG:=⟨(SN [0,1] (u2 UE hS) .nil),[SY [0] (u1 hT) .nil],λd=>TE n d.1.1 d.1.2.1 d.1.2.2.1 d.1.2.2.2.1 d.1.2.2.2.2 d.2⟩
def VO(n:Nat):List (Nat×aQ):= [(2,⟨[SN [1,2,5,6,7,8,15,16,17,27,28,29] (.cons hS (.cons hU (.cons hD (u9 hA (.ptr 2 0 0 0) hE hK hA hA hP hA hA)))) XD],[SX 2 [1,2,5,8,15,16,17] (u7 hS hU hD hE hK hA hA) XD],LR n⟩),(0,⟨[SN [1,2,5,15,16,17] (u6 hS hU hD hK hA hA) (u2 Co Xh)],[SX 0 [5] (u1 hD) (u2 Co Xh)],Hk n⟩)]
theorem UO(n:Nat):a6 Tryd.prog 45 (V7 n):=
 a6.bS n zz Tryd.f45 {live:= [(0,[1,2,5,15,16,17]),(2,[1,2,5,6,7,8,15,16,17,27,28,29])],boxed:= [(1,0),(5,3),(14,3)]} (VO n) (.k (qay_ok n) (.k (qcv_ok n) .e)) (.k (λ_=>rfl) (λ_=>by kernel_rfl) (.k (λ_=>rfl) (λ_=>by kernel_rfl) .e)) (by kernel_rfl) (by kernel_rfl) λ_=>by kernel_rfl
def qbo_E(n:Nat):aG:=⟨(SN [0] KG .nil),[SY [0] (u1 (.tup (u2 hT hA))) .nil],λd=>qbo n d.1 d.2.1 d.2.2.1 d.2.2.2.1 d.2.2.2.2⟩
theorem qbo_ok(n:Nat):a6 Tryd.prog 31 (qbo_E n):=
 a6.bS n zz Tryd.f31 {} [] (.k (qat_ok n) (.k (UO n) .e)) .e (by kernel_rfl) (by kernel_rfl) λ_=>by kernel_rfl
def qdb_E(n:Nat):aG:=⟨(SN [0,1] (u2 UE hA) .nil),[SY [0] hV .nil],λd=>qdb n d.1.1 d.1.2.1 d.1.2.2.1 d.1.2.2.2.1 d.1.2.2.2.2 d.2⟩
theorem qdb_ok(n:Nat):a6 Tryd.prog 33 (qdb_E n):=
 a6.bS n zz Tryd.f33 {} [] (.k (qcv_ok n) .e) .e (by kernel_rfl) (by kernel_rfl) λ_=>by kernel_rfl
def qai_E(n:Nat):aG:=⟨(SN [] .nil .nil),[SY [0] hC .nil],λd=>qai n⟩
theorem qai_ok(n:Nat):a6 Tryd.prog 30 (qai_E n):=
 a6.bS n zz Tryd.f30 {} [] (.k (qbo_ok n) (.k (qdb_ok n) .e)) .e (by kernel_rfl) (by kernel_rfl) λ_=>by kernel_rfl
def Dn(n:Nat):aG:=⟨(SN [0] KG .nil),[SY [0] hC .nil],λd=>kT n d.1 d.2.1 d.2.2.1 d.2.2.2.1 d.2.2.2.2⟩
def Cn(n:Nat):List (Nat×aQ):= [(2,⟨[SN [1,3,6,8,9,10] (u6 hU hT hN hA hX hA) KI],[SY [2] hC (u3 Co R9 V0),SY [2] hC (u4 Co R9 V0 Wr),SX 2 [1,3,6,8] WX KI],iF n⟩),(0,⟨[SN [1,3,6,8] WX x6],[SY [2] hC KI,SY [2] hC (u3 Co R9 V0),SY [2] hC (u4 Co R9 V0 Wr),SX 0 [] .nil x6],fH n⟩)]
theorem Cl(n:Nat):a6 Tryd.prog 11 (Dn n):=
 a6.bS n zz Tryd.f11 {live:= [(0,[1,3,6,8]),(2,[1,3,6,8,9,10])]} (Cn n) (.k (qaz_ok n) (.k (qai_ok n) (.k (qbo_ok n) (.k (qbm_ok n) (.k (qcb_ok n) (.k (qbp_ok n) (.k (qbt_ok n) .e))))))) (.k (λ_=>rfl) (λ_=>by kernel_rfl) (.k (λ_=>rfl) (λ_=>by kernel_rfl) .e)) (by kernel_rfl) (by kernel_rfl) λ_=>by kernel_rfl
def Kb(n:Nat):aG:=⟨(SN [0] KG .nil),[SY [0] hC .nil],λd=>qV n d.1 d.2.1 d.2.2.1 d.2.2.2.1 d.2.2.2.2⟩
def Jo(n:Nat):List (Nat×aQ):= [(2,⟨[SN [1,3,5,6,7] (u5 hU hT hA hA hA) x6],[SY [2] hC (u2 Co V0),SX 2 [1,3,5] (u3 hU hT hA) x6],mE n⟩),(0,⟨[SN [1,3,5] (u3 hU hT hA) x6],[SY [2] hC (u2 Co V0),SX 0 [1] HC x6],l7 n⟩)]
theorem Ih(n:Nat):a6 Tryd.prog 12 (Kb n):=
 a6.bS n zz Tryd.f12 {live:= [(0,[1,3,5]),(2,[1,3,5,6,7])]} (Jo n) (.k (qaz_ok n) (.k (qai_ok n) (.k (qbo_ok n) (.k (qdb_ok n) .e)))) (.k (λ_=>rfl) (λ_=>by kernel_rfl) (.k (λ_=>rfl) (λ_=>by kernel_rfl) .e)) (by kernel_rfl) (by kernel_rfl) λ_=>by kernel_rfl
def Fb(n:Nat):aG:=⟨(SN [0] KG .nil),[SY [0] hC .nil],λd=>lZ n d.1 d.2.1 d.2.2.1 d.2.2.2.1 d.2.2.2.2⟩
def Dw(n:Nat):List (Nat×aQ):= [(4,⟨[SN [1,3,5,7,8,10,12] (u7 hU hT hN hA hA S3 hA) x6],[SY [2] hC W3,SX 4 [1,3,5,7,8] (u5 hU hT hN hA hA) x6],iZ n⟩),(2,⟨[SN [1,3,5,7,8] (u5 hU hT hN hA hA) x6],[SY [2] hC W3,SX 2 [1,3,5,7] WX x6],iY n⟩),(0,⟨[SN [1,3,5,7] WX x6],[SY [2] hC W3,SX 0 [] .nil x6],iX n⟩)]
theorem CG(n:Nat):a6 Tryd.prog 13 (Fb n):=
 a6.bS n zz Tryd.f13 {live:= [(0,[1,3,5,7]),(2,[1,3,5,7,8]),(4,[1,3,5,7,8,10,12])]} (Dw n) (.k (qaz_ok n) (.k (qai_ok n) (.k (qbo_ok n) (.k (qbp_ok n) (.k (qcd_ok n) .e))))) (.k (λ_=>rfl) (λ_=>by kernel_rfl) (.k (λ_=>rfl) (λ_=>by kernel_rfl) (.k (λ_=>rfl) (λ_=>by kernel_rfl) .e))) (by kernel_rfl) (by kernel_rfl) λ_=>by kernel_rfl
end
end Sx
