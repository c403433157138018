import Derived.Test.YtjjjbgicidhpfaaDoorLib7
import Derived.KernelRfl
open Go Go.Ab
set_option linter.unusedVariables false
set_option maxRecDepth 20000
namespace Sx
noncomputable section
abbrev EAA:=Int×Int
abbrev DB:=List EAA
abbrev DH:=List DB
abbrev EAC:=Int×Int×Int
abbrev DA:=List EAC
abbrev EAH:=DB×Int×Int×DB×DA
abbrev DI:=List EAH
abbrev EAL:=DB×Int×Int
abbrev DJ:=List EAL
abbrev DC:=List Int
abbrev DE:=List ByteArray
abbrev EAB:=DH×DI×DJ×DC×DE×Int×Nat×Nat
abbrev EAD:=DH×DI×DJ×DC×DE×Int
abbrev EAE:=DH×DI×DJ×DC×DE
abbrev EAF:=DH×Int×Int
abbrev EAG:=Nat×Nat
abbrev EAI:=Int×Nat×Bool×DB×Int×Int
abbrev EAJ:=DI×Int×Int
abbrev EAK:=Int⊕Unit
abbrev EAM:=Bool×Int
abbrev EAN:=DJ×Int×Int
abbrev DL:=List (Bool×DB)
abbrev EAO:=EAA×EAB×DL×DC
abbrev EAP:=Int×EAE×DB×Int×Int×DB×DA
abbrev EAQ:=EAG×DH×Int×Int
abbrev EAR:=Bool×EAB×DL×DC
abbrev EAS:=EAB×DL×DC
abbrev EAT:=EAA⊕Int
abbrev EAU:=EAG×DB
abbrev EAV:=EAA×EAD×DL
abbrev DD:=List Int
abbrev DF:=List ByteArray
abbrev DG:=List (Nat×Int×Int)
abbrev DK:=List DC
abbrev DM:=List DL
def dI(n:Nat)(a c d e f:Int)(g b:DA):Option ((EAC×EAA×DA×DA)⊕(EAA×EAA×DA×DA)):=
 bif(decide (d<(aR .i64 (gF .i64 (dP a 4)) 1)))then
 bif(Nat.ble (List.length (b++((0,(0,0))::([]:List EAC)))) 4294967296)then
 some (Sum.inl ((a,(c,(aR .i64 d 1))),((e,f),(g,(b++((0,(0,0))::([]:List EAC)))))))
 else none
 else
 some (Sum.inr ((a,c),((e,f),(g,b))))
def cQ(n:Nat)(s:EAC×EAA×DA×DA):Option (EAA×EAA×DA×DA):=b8 (λs=>dI n s.1.1 s.1.2.1 s.1.2.2 s.2.1.1 s.2.1.2 s.2.2.1 s.2.2.2) n s
def qbn(n:Nat)(b a c:Int):Option Bool:=
 bif(b==1)then
 some (a==0)
 else
 bif(b==2)then
 some (a==0)
 else
 bif(b==3)then
 some (a==0)
 else
 bif(b==7)then
 some (a==0)
 else
 bif(b==4)then
 bif(decide (a≥0))then
 some (decide (a<c))
 else
 some false
 else
 bif(b==5)then
 bif(decide (a≥0))then
 some (decide (a<4))
 else
 some false
 else
 some false
def qak(n:Nat)(b c a:Int):Option EAM:=
 (qbn n b c a).bind λd=>
 some ((!d),a)
def qae_B0(n:Nat)(c:DB)(d a e:Int):Option ((EAL×Int)⊕EAT):=
 bif(decide (a<d))then
 (aV c a).bind λf=>
 (qak n f.1 f.2 e).bind λb=>
 bif b.1 then
 some (Sum.inr (Sum.inl (a,b.2)))
 else
 some (Sum.inl ((c,(d,(aR .i64 a 1))),b.2))
 else
 some (Sum.inr (Sum.inr e))
def qae_W0(n:Nat)(s:EAL×Int):Option EAT:=b8 (λs=>qae_B0 n s.1.1 s.1.2.1 s.1.2.2 s.2) n s
def qae(n:Nat)(a:DB)(b:Int):Option EAA:=
 (qae_W0 n ((a,((aF a),0)),b)).bind λc=>
 Sum.rec (λd=>
 some d) (λe=>
 some ((-1),e)) c
def qs(n:Nat)(b:DB)(c:Int):Option EAM:=
 (qae n b c).bind λa=>
 some ((decide (a.1≥0)),a.2)
def qay(n:Nat)(a:DB)(b c:Int):Option Bool:=
 bif(decide ((aF a)≤c))then
 (qs n a b).bind λd=>
 some (!d.1)
 else
 some false
def qaq(n:Nat)(b:DB)(a:Int):Option EAM:=
 (qay n b a 6).bind λc=>
 some ((!c),a)
def qx_B0(n:Nat)(c:DH)(d a e:Int):Option ((EAF×Int)⊕EAT):=
 bif(decide (a<d))then
 (aV c a).bind λf=>
 (qaq n f e).bind λb=>
 bif b.1 then
 some (Sum.inr (Sum.inl (a,b.2)))
 else
 some (Sum.inl ((c,(d,(aR .i64 a 1))),b.2))
 else
 some (Sum.inr (Sum.inr e))
def qx_W0(n:Nat)(s:EAF×Int):Option EAT:=b8 (λs=>qx_B0 n s.1.1 s.1.2.1 s.1.2.2 s.2) n s
def qx(n:Nat)(a:DH)(b:Int):Option EAA:=
 (qx_W0 n ((a,((aF a),0)),b)).bind λc=>
 Sum.rec (λd=>
 some d) (λe=>
 some ((-1),e)) c
def qh(n:Nat)(b:DH)(c:Int):Option EAM:=
 (qx n b c).bind λa=>
 some ((decide (a.1≥0)),a.2)
def qbl(n:Nat)(a:Int):Option Int:=
 bif(a==29)then
 some 2
 else
 bif(a==30)then
 some 2
 else
 bif(a==0)then
 some 1
 else
 bif(a==1)then
 some 1
 else
 bif(a==3)then
 some 1
 else
 bif(a==4)then
 some 1
 else
 bif(a==23)then
 some 1
 else
 bif(a==24)then
 some 1
 else
 bif(a==25)then
 some 1
 else
 bif(a==27)then
 some 1
 else
 bif(a==28)then
 some 1
 else
 bif(decide (a<0))then
 some (-1)
 else
 bif(decide (a≥42))then
 some (-1)
 else
 some 0
def qca(n:Nat)(a:Int)(b:Bool):Option Bool:=
 bif(decide (a≥0))then
 bif(decide (a≤255))then
 bif b then
 some true
 else
 some (a==0)
 else
 some false
 else
 some false
def qcc_B0(n:Nat)(a:Int)(b:DC):Option ((Int×DC)⊕(Int×DC)):=
 bif(decide (a≥128))then
 bif(Nat.ble (List.length (b++((Qg .u8 (gF .u8 a) 128)::([]:DD)))) 4294967296)then
 some (Sum.inl ((N4 .u64 a 7),(b++((Qg .u8 (gF .u8 a) 128)::([]:DD)))))
 else none
 else
 some (Sum.inr (a,b))
def qcc_W0(n:Nat)(s:Int×DC):Option (Int×DC):=b8 (λs=>qcc_B0 n s.1 s.2) n s
def qcc(n:Nat)(b:Int):Option DC:=
 (qcc_W0 n (b,([]:DD))).bind λa=>
 bif(Nat.ble (List.length (a.2++((gF .u8 a.1)::([]:DD)))) 4294967296)then
 some (a.2++((gF .u8 a.1)::([]:DD)))
 else none
def qbw_B0(n:Nat)(b:Nat×Nat)(f a:Int)(c:DC)(d e:Int):Option (((EAG×Int×Int)×DC×Int×Int)⊕(DC×Int×Int)):=
 bif(decide (a<f))then
 bif((decide (0≤a))&&(decide (a<((b.2:Nat):Int))))then
 bif(Nat.beq (((b.1+(Int.toNat a))*1)+0) 0)then
 (qcc n (gF .u64 d)).bind λg=>
 bif(Nat.ble (List.length (c++g)) 4294967296)then
 some (Sum.inl ((b,(f,(aR .i64 a 1))),((c++g),(d,e))))
 else none
 else
 bif(Nat.beq (((b.1+(Int.toNat a))*1)+0) 1)then
 (qcc n (gF .u64 e)).bind λh=>
 bif(Nat.ble (List.length (c++h)) 4294967296)then
 some (Sum.inl ((b,(f,(aR .i64 a 1))),((c++h),(d,e))))
 else none
 else none
 else none
 else
 some (Sum.inr (c,(d,e)))
def qbw_W0(n:Nat)(s:(EAG×Int×Int)×DC×Int×Int):Option (DC×Int×Int):=b8 (λs=>qbw_B0 n s.1.1 s.1.2.1 s.1.2.2 s.2.1 s.2.2.1 s.2.2.2) n s
def qbw(n:Nat)(b c d:Int):Option DC:=
 (qbl n b).bind λa=>
 bif(decide (a<0))then
 some ([]:DD)
 else
 (qca n c (decide (a>0))).bind λe=>
 bif(!e)then
 some ([]:DD)
 else
 (qca n d (decide (a>1))).bind λf=>
 bif(!f)then
 some ([]:DD)
 else
 bif((decide (0≤a))&&(decide (a≤2)))then
 (qbw_W0 n (((0,((Int.toNat a)-0)),(((((Int.toNat a)-0):Nat):Int),0)),(((gF .u8 b)::([]:DD)),(c,d)))).bind λg=>
 some g.1
 else none
def qz(n:Nat)(a b c:Int):Option Bool:=
 (qbw n a b c).bind λd=>
 some ((aF d)==0)
def qaa_B0(n:Nat)(c:DA)(d a:Int):Option ((DA×Int×Int)⊕EAK):=
 bif(decide (a<d))then
 (aV c a).bind λb=>
 (qz n b.1 b.2.1 b.2.2).bind λe=>
 bif e then
 some (Sum.inr (Sum.inl a))
 else
 some (Sum.inl (c,(d,(aR .i64 a 1))))
 else
 some (Sum.inr (Sum.inr ()))
def qaa_W0(n:Nat)(s:DA×Int×Int):Option EAK:=b8 (λs=>qaa_B0 n s.1 s.2.1 s.2.2) n s
def qaa(n:Nat)(a:DA):Option Int:=
 (qaa_W0 n (a,((aF a),0))).bind λb=>
 Sum.rec (λc=>
 some c) (λd=>
 some (-1)) b
def qo(n:Nat)(a:DA):Option Bool:=
 (qaa n a).bind λb=>
 some (decide (b≥0))
def qac(n:Nat)(c:DB)(d e:Int)(f:DB)(a:DA)(b:Int):Option Bool:=
 (qay n c b 4).bind λg=>
 bif g then
 (qbn n d e b).bind λh=>
 bif h then
 (qay n f b (iK .i64 8 (aF c))).bind λi=>
 bif i then
 bif(decide ((aF a)≥1))then
 bif(decide ((aF a)≤64))then
 (qo n a).bind λj=>
 some (!j)
 else
 some false
 else
 some false
 else
 some false
 else
 some false
 else
 some false
def qal(n:Nat)(b:DB)(c d:Int)(e:DB)(f:DA)(a:Int):Option EAM:=
 (qac n b c d e f a).bind λg=>
 some ((!g),a)
def qad_B0(n:Nat)(d:DI)(e b f:Int):Option ((EAJ×Int)⊕EAT):=
 bif(decide (b<e))then
 (aV d b).bind λa=>
 (qal n a.1 a.2.1 a.2.2.1 a.2.2.2.1 a.2.2.2.2 f).bind λc=>
 bif c.1 then
 some (Sum.inr (Sum.inl (b,c.2)))
 else
 some (Sum.inl ((d,(e,(aR .i64 b 1))),c.2))
 else
 some (Sum.inr (Sum.inr f))
def qad_W0(n:Nat)(s:EAJ×Int):Option EAT:=b8 (λs=>qad_B0 n s.1.1 s.1.2.1 s.1.2.2 s.2) n s
def qad(n:Nat)(a:DI)(b:Int):Option EAA:=
 (qad_W0 n ((a,((aF a),0)),b)).bind λc=>
 Sum.rec (λd=>
 some d) (λe=>
 some ((-1),e)) c
def qq(n:Nat)(b:DI)(c:Int):Option EAM:=
 (qad n b c).bind λa=>
 some ((decide (a.1≥0)),a.2)
def qap(n:Nat)(b:DB)(c d a:Int):Option EAM:=
 (qay n b a 4).bind λe=>
 bif(!e)then
 some (true,a)
 else
 (qbn n c d a).bind λf=>
 some ((!f),a)
def qu_B0(n:Nat)(d:DJ)(e a f:Int):Option ((EAN×Int)⊕EAT):=
 bif(decide (a<e))then
 (aV d a).bind λb=>
 (qap n b.1 b.2.1 b.2.2 f).bind λc=>
 bif c.1 then
 some (Sum.inr (Sum.inl (a,c.2)))
 else
 some (Sum.inl ((d,(e,(aR .i64 a 1))),c.2))
 else
 some (Sum.inr (Sum.inr f))
def qu_W0(n:Nat)(s:EAN×Int):Option EAT:=b8 (λs=>qu_B0 n s.1.1 s.1.2.1 s.1.2.2 s.2) n s
def qu(n:Nat)(a:DJ)(b:Int):Option EAA:=
 (qu_W0 n ((a,((aF a),0)),b)).bind λc=>
 Sum.rec (λd=>
 some d) (λe=>
 some ((-1),e)) c
def qi(n:Nat)(b:DJ)(c:Int):Option EAM:=
 (qu n b c).bind λa=>
 some ((decide (a.1≥0)),a.2)
def qao(n:Nat)(a:ByteArray):Option Bool:=
 some (decide ((O8 a)>32))
def qy_B0(n:Nat)(b:DE)(c a:Int):Option ((DE×Int×Int)⊕EAK):=
 bif(decide (a<c))then
 (aV b a).bind λd=>
 (qao n d).bind λe=>
 bif e then
 some (Sum.inr (Sum.inl a))
 else
 some (Sum.inl (b,(c,(aR .i64 a 1))))
 else
 some (Sum.inr (Sum.inr ()))
def qy_W0(n:Nat)(s:DE×Int×Int):Option EAK:=b8 (λs=>qy_B0 n s.1 s.2.1 s.2.2) n s
def qy(n:Nat)(a:DE):Option Int:=
 (qy_W0 n (a,((aF a),0))).bind λb=>
 Sum.rec (λc=>
 some c) (λd=>
 some (-1)) b
def qf(n:Nat)(a:DE):Option Bool:=
 (qy n a).bind λb=>
 some (decide (b≥0))
def qav(n:Nat)(a:DH)(b:DI)(c:DJ)(g:DC)(d:DE):Option Bool:=
 bif(decide ((aF a)≤8))then
 (qh n a (aF a)).bind λe=>
 bif(!e.1)then
 bif(decide ((aF b)≥1))then
 bif(decide ((aF b)≤8))then
 (qq n b e.2).bind λf=>
 bif(!f.1)then
 bif(decide ((aF c)≤8))then
 (qi n c f.2).bind λh=>
 bif(!h.1)then
 bif(decide ((aF g)≤16))then
 bif(decide ((aF d)≤16))then
 (qf n d).bind λi=>
 some (!i)
 else
 some false
 else
 some false
 else
 some false
 else
 some false
 else
 some false
 else
 some false
 else
 some false
 else
 some false
 else
 some false
def qm(n:Nat)(b:Int):Option DC:=
 (qcc n (gF .u64 b)).bind λa=>
 bif(Nat.ble (List.length a) 4294967296)then
 some a
 else none
def qd(n:Nat)(c:Int)(a:DC):Option DC:=
 (qcc n (gF .u64 c)).bind λb=>
 bif(Nat.ble (List.length (a++b)) 4294967296)then
 some (a++b)
 else none
def qbz(n:Nat)(c d:Int):Option DC:=
 (qcc n (gF .u64 (Nv c 0))).bind λa=>
 (qcc n (gF .u64 (Nv d 0))).bind λb=>
 bif(Nat.ble (List.length (a++b)) 4294967296)then
 some (a++b)
 else none
def ql_B0(n:Nat)(c:DB)(d a:Int)(b:DC):Option ((EAL×DC)⊕DC):=
 bif(decide (a<d))then
 (aV c a).bind λe=>
 (qbz n e.1 e.2).bind λf=>
 bif(Nat.ble (List.length (b++f)) 4294967296)then
 some (Sum.inl ((c,(d,(aR .i64 a 1))),(b++f)))
 else none
 else
 some (Sum.inr b)
def ql_W0(n:Nat)(s:EAL×DC):Option DC:=b8 (λs=>ql_B0 n s.1.1 s.1.2.1 s.1.2.2 s.2) n s
def ql(n:Nat)(a:DB)(b:DC):Option DC:=
 (qd n (aF a) b).bind λc=>
 (ql_W0 n ((a,((aF a),0)),c)).bind λd=>
 some d
def qab_B0(n:Nat)(b:DH)(c a:Int)(d:DC):Option ((EAF×DC)⊕DC):=
 bif(decide (a<c))then
 (aV b a).bind λe=>
 (ql n e d).bind λf=>
 some (Sum.inl ((b,(c,(aR .i64 a 1))),f))
 else
 some (Sum.inr d)
def qab_W0(n:Nat)(s:EAF×DC):Option DC:=b8 (λs=>qab_B0 n s.1.1 s.1.2.1 s.1.2.2 s.2) n s
def qab(n:Nat)(a:DH)(d:DI)(e:DJ)(f:DC)(g:DE):Option DC:=
 (qm n (aF a)).bind λb=>
 (qab_W0 n ((a,((aF a),0)),b)).bind λc=>
 some c
def qw_B2(n:Nat)(d:DI)(e f:Int)(g:DA)(h a:Int)(b:DC):Option (((DI×Int×Int×DA×Int×Int)×DC)⊕(EAJ×DC)):=
 bif(decide (a<h))then
 (aV g a).bind λc=>
 (qbw n c.1 c.2.1 c.2.2).bind λi=>
 bif(Nat.ble (List.length (b++i)) 4294967296)then
 some (Sum.inl ((d,(e,(f,(g,(h,(aR .i64 a 1)))))),(b++i)))
 else none
 else
 some (Sum.inr ((d,(e,f)),b))
def qw_W2(n:Nat)(s:(DI×Int×Int×DA×Int×Int)×DC):Option (EAJ×DC):=b8 (λs=>qw_B2 n s.1.1 s.1.2.1 s.1.2.2.1 s.1.2.2.2.1 s.1.2.2.2.2.1 s.1.2.2.2.2.2 s.2) n s
def qw_B0(n:Nat)(d:DI)(e c:Int)(f:DC):Option ((EAJ×DC)⊕DC):=
 bif(decide (c<e))then
 (aV d c).bind λa=>
 (ql n a.1 f).bind λg=>
 (qbz n a.2.1 a.2.2.1).bind λh=>
 bif(Nat.ble (List.length (g++h)) 4294967296)then
 (ql n a.2.2.2.1 (g++h)).bind λi=>
 (qd n (aF a.2.2.2.2) i).bind λj=>
 (qw_W2 n ((d,(e,(c,(a.2.2.2.2,((aF a.2.2.2.2),0))))),j)).bind λb=>
 some (Sum.inl ((b.1.1,(b.1.2.1,(aR .i64 b.1.2.2 1))),b.2))
 else none
 else
 some (Sum.inr f)
def qw_W0(n:Nat)(s:EAJ×DC):Option DC:=b8 (λs=>qw_B0 n s.1.1 s.1.2.1 s.1.2.2 s.2) n s
def qw(n:Nat)(d:DH)(a:DI)(e:DJ)(f:DC)(g:DE):Option DC:=
 (qm n (aF a)).bind λb=>
 (qw_W0 n ((a,((aF a),0)),b)).bind λc=>
 some c
def qag_B0(n:Nat)(c:DJ)(d a:Int)(e:DC):Option ((EAN×DC)⊕DC):=
 bif(decide (a<d))then
 (aV c a).bind λb=>
 (ql n b.1 e).bind λf=>
 (qbz n b.2.1 b.2.2).bind λg=>
 bif(Nat.ble (List.length (f++g)) 4294967296)then
 some (Sum.inl ((c,(d,(aR .i64 a 1))),(f++g)))
 else none
 else
 some (Sum.inr e)
def qag_W0(n:Nat)(s:EAN×DC):Option DC:=b8 (λs=>qag_B0 n s.1.1 s.1.2.1 s.1.2.2 s.2) n s
def qag(n:Nat)(d:DH)(e:DI)(a:DJ)(f:DC)(g:DE):Option DC:=
 (qm n (aF a)).bind λb=>
 (qag_W0 n ((a,((aF a),0)),b)).bind λc=>
 some c
def qbs_B0(n:Nat)(b d a:Int)(c:DC):Option ((EAC×DC)⊕DC):=
 bif(decide (a<d))then
 bif(decide (0≤(Oz .i64 8 a)))then
 bif(Nat.ble (List.length (c++((gF .u8 (N4 .u64 b (Oz .i64 8 a)))::([]:DD)))) 4294967296)then
 some (Sum.inl ((b,(d,(aR .i64 a 1))),(c++((gF .u8 (N4 .u64 b (Oz .i64 8 a)))::([]:DD)))))
 else none
 else none
 else
 some (Sum.inr c)
def qbs_W0(n:Nat)(s:EAC×DC):Option DC:=b8 (λs=>qbs_B0 n s.1.1 s.1.2.1 s.1.2.2 s.2) n s
def qbs(n:Nat)(a b:Int):Option DC:=
 (qbs_W0 n ((a,((OV (Nv b 0) 8),0)),([]:DD))).bind λc=>
 some c
def qaf_B0(n:Nat)(c:DC)(d a:Int)(b:DC):Option (((DC×Int×Int)×DC)⊕DC):=
 bif(decide (a<d))then
 (aV c a).bind λf=>
 (qbs n f 8).bind λe=>
 bif(Nat.ble (List.length (b++e)) 4294967296)then
 some (Sum.inl ((c,(d,(aR .i64 a 1))),(b++e)))
 else none
 else
 some (Sum.inr b)
def qaf_W0(n:Nat)(s:(DC×Int×Int)×DC):Option DC:=b8 (λs=>qaf_B0 n s.1.1 s.1.2.1 s.1.2.2 s.2) n s
def qaf(n:Nat)(d:DH)(e:DI)(f:DJ)(a:DC)(g:DE):Option DC:=
 (qm n (aF a)).bind λb=>
 (qaf_W0 n ((a,((aF a),0)),b)).bind λc=>
 some c
def qaj_B0(n:Nat)(c:DE)(d a:Int)(e:DC):Option (((DE×Int×Int)×DC)⊕DC):=
 bif(decide (a<d))then
 (aV c a).bind λb=>
 (qd n (O8 b) e).bind λf=>
 bif(Nat.ble (List.length (f++(eO b))) 4294967296)then
 some (Sum.inl ((c,(d,(aR .i64 a 1))),(f++(eO b))))
 else none
 else
 some (Sum.inr e)
def qaj_W0(n:Nat)(s:(DE×Int×Int)×DC):Option DC:=b8 (λs=>qaj_B0 n s.1.1 s.1.2.1 s.1.2.2 s.2) n s
def qaj(n:Nat)(d:DH)(e:DI)(f:DJ)(g:DC)(a:DE):Option DC:=
 (qm n (aF a)).bind λb=>
 (qaj_W0 n ((a,((aF a),0)),b)).bind λc=>
 some c
def qbp_B0(n:Nat)(e:DK)(f b:Int)(a:DC):Option (((DK×Int×Int)×DC)⊕DC):=
 bif(decide (b<f))then
 (aV e b).bind λc=>
 (qcc n (gF .u64 (aF c))).bind λd=>
 bif(Nat.ble (List.length (a++d)) 4294967296)then
 bif(Nat.ble (List.length ((a++d)++c)) 4294967296)then
 some (Sum.inl ((e,(f,(aR .i64 b 1))),((a++d)++c)))
 else none
 else none
 else
 some (Sum.inr a)
def qbp_W0(n:Nat)(s:(DK×Int×Int)×DC):Option DC:=b8 (λs=>qbp_B0 n s.1.1 s.1.2.1 s.1.2.2 s.2) n s
def qbp(n:Nat)(a:DK):Option DC:=
 (qcc n (gF .u64 (aF a))).bind λb=>
 (qbp_W0 n ((a,((aF a),0)),b)).bind λc=>
 some c
def qai(n:Nat)(a:DH)(b:DI)(c:DJ)(d:DC)(e:DE):Option (DC×Int):=
 (qav n a b c d e).bind λf=>
 bif(!f)then
 some (([]:DD),2)
 else
 (qab n a b c d e).bind λg=>
 (qw n a b c d e).bind λh=>
 (qag n a b c d e).bind λi=>
 (qaf n a b c d e).bind λj=>
 (qaj n a b c d e).bind λk=>
 (qbp n (g::(h::(i::(j::(k::([]:DK))))))).bind λl=>
 some (l,0)
def qbg(n:Nat)(a b:Int):Option Bool:=
 some (decide (a<b))
def qbb(n:Nat)(c:DH)(h:DI)(i:DJ)(j:DC)(k:DE)(d:DB)(ab ac:Int)(e:DB)(f:DA)(b a g:Int):Option Bool:=
 bif(b==0)then
 (qbg n a (aF j)).bind λl=>
 some l
 else
 bif(b==1)then
 (qbg n a (aF k)).bind λm=>
 some m
 else
 bif(b==3)then
 (qbg n a (aR .i64 (aF d) (aF e))).bind λo=>
 some o
 else
 bif(b==4)then
 (qbg n a (aR .i64 (aF d) (aF e))).bind λp=>
 some p
 else
 bif(b==23)then
 (qbg n a (aF f)).bind λq=>
 some q
 else
 bif(b==24)then
 (qbg n a (aF f)).bind λr=>
 some r
 else
 bif(b==25)then
 (qbg n a (aF h)).bind λs=>
 some s
 else
 bif(b==27)then
 (qbg n a (aF i)).bind λt=>
 some t
 else
 bif(b==28)then
 (qbg n a (aF c)).bind λu=>
 some u
 else
 bif(b==29)then
 (qbg n a (aF c)).bind λv=>
 bif v then
 (aV c a).bind λw=>
 (qbg n g (aF w)).bind λx=>
 some x
 else
 some false
 else
 bif(b==30)then
 (qbg n a (aF c)).bind λy=>
 bif y then
 (aV c a).bind λz=>
 (qbg n g (aF z)).bind λaa=>
 some aa
 else
 some false
 else
 some true
def qaz(n:Nat)(k l m:Int)(a:DH)(b:DI)(c:DJ)(d:DC)(e:DE)(f:DB)(g h:Int)(i:DB)(j:DA):Option (Bool×EAE×DB×Int×Int×DB×DA):=
 (qbb n a b c d e f g h i j k l m).bind λo=>
 some ((!o),((a,(b,(c,(d,e)))),(f,(g,(h,(i,j))))))
def qr_B0(n:Nat)(d:DA)(e a:Int)(f:DH)(g:DI)(h:DJ)(i:DC)(j:DE)(k:DB)(l m:Int)(o:DB)(p:DA):Option (((DA×Int×Int)×EAE×DB×Int×Int×DB×DA)⊕(EAP⊕(EAE×DB×Int×Int×DB×DA))):=
 bif(decide (a<e))then
 (aV d a).bind λb=>
 (qaz n b.1 b.2.1 b.2.2 f g h i j k l m o p).bind λc=>
 bif c.1 then
 some (Sum.inr (Sum.inl (a,c.2)))
 else
 some (Sum.inl ((d,(e,(aR .i64 a 1))),c.2))
 else
 some (Sum.inr (Sum.inr ((f,(g,(h,(i,j)))),(k,(l,(m,(o,p)))))))
def qr_W0(n:Nat)(s:(DA×Int×Int)×EAE×DB×Int×Int×DB×DA):Option (EAP⊕(EAE×DB×Int×Int×DB×DA)):=b8 (λs=>qr_B0 n s.1.1 s.1.2.1 s.1.2.2 s.2.1.1 s.2.1.2.1 s.2.1.2.2.1 s.2.1.2.2.2.1 s.2.1.2.2.2.2 s.2.2.1 s.2.2.2.1 s.2.2.2.2.1 s.2.2.2.2.2.1 s.2.2.2.2.2.2) n s
def qr(n:Nat)(a:DA)(b:DH)(c:DI)(d:DJ)(e:DC)(f:DE)(g:DB)(h i:Int)(j:DB)(k:DA):Option EAP:=
 (qr_W0 n ((a,((aF a),0)),((b,(c,(d,(e,f)))),(g,(h,(i,(j,k))))))).bind λl=>
 Sum.rec (λm=>
 some m) (λo=>
 some ((-1),o)) l
def qc(n:Nat)(b:DA)(c:DH)(d:DI)(e:DJ)(f:DC)(g:DE)(h:DB)(i j:Int)(k:DB)(l:DA):Option (Bool×EAE×DB×Int×Int×DB×DA):=
 (qr n b c d e f g h i j k l).bind λa=>
 some ((decide (a.1≥0)),a.2)
def qaw(n:Nat)(a b:Int):Option Bool:=
 some (a==5)
def qt_B0(n:Nat)(b:DB)(c a:Int):Option (EAL⊕EAK):=
 bif(decide (a<c))then
 (aV b a).bind λd=>
 (qaw n d.1 d.2).bind λe=>
 bif e then
 some (Sum.inr (Sum.inl a))
 else
 some (Sum.inl (b,(c,(aR .i64 a 1))))
 else
 some (Sum.inr (Sum.inr ()))
def qt_W0(n:Nat)(s:DB×Int×Int):Option EAK:=b8 (λs=>qt_B0 n s.1 s.2.1 s.2.2) n s
def qt(n:Nat)(a:DB):Option Int:=
 (qt_W0 n (a,((aF a),0))).bind λb=>
 Sum.rec (λc=>
 some c) (λd=>
 some (-1)) b
def qj(n:Nat)(a:DB):Option Bool:=
 (qt n a).bind λb=>
 some (decide (b≥0))
def qbh_B0(n:Nat)(d:DI)(e c:Int)(f:DH)(g:DI)(h:DJ)(i:DC)(j:DE):Option ((EAJ×DH×DI×DJ×DC×DE)⊕(EAP⊕EAE)):=
 bif(decide (c<e))then
 (aV d c).bind λa=>
 (qc n a.2.2.2.2 f g h i j a.1 a.2.1 a.2.2.1 a.2.2.2.1 a.2.2.2.2).bind λb=>
 bif b.1 then
 some (Sum.inr (Sum.inl (1,b.2)))
 else
 (qj n b.2.2.2.2.2.1).bind λk=>
 bif k then
 some (Sum.inr (Sum.inl (1,b.2)))
 else
 some (Sum.inl ((d,(e,(aR .i64 c 1))),b.2.1))
 else
 some (Sum.inr (Sum.inr (f,(g,(h,(i,j))))))
def qbh_W0(n:Nat)(s:EAJ×DH×DI×DJ×DC×DE):Option (EAP⊕EAE):=b8 (λs=>qbh_B0 n s.1.1 s.1.2.1 s.1.2.2 s.2.1 s.2.2.1 s.2.2.2.1 s.2.2.2.2.1 s.2.2.2.2.2) n s
def qbi(n:Nat)(a b:Int):Option Bool:=
 bif(a==1)then
 some true
 else
 some (a==5)
def qam(n:Nat)(a b:Int):Option Bool:=
 (qbi n a b).bind λc=>
 some (!c)
def qv_B0(n:Nat)(b:DB)(c a:Int):Option (EAL⊕EAK):=
 bif(decide (a<c))then
 (aV b a).bind λd=>
 (qam n d.1 d.2).bind λe=>
 bif e then
 some (Sum.inr (Sum.inl a))
 else
 some (Sum.inl (b,(c,(aR .i64 a 1))))
 else
 some (Sum.inr (Sum.inr ()))
def qv_W0(n:Nat)(s:DB×Int×Int):Option EAK:=b8 (λs=>qv_B0 n s.1 s.2.1 s.2.2) n s
def qv(n:Nat)(a:DB):Option Int:=
 (qv_W0 n (a,((aF a),0))).bind λb=>
 Sum.rec (λc=>
 some c) (λd=>
 some (-1)) b
def qg(n:Nat)(a:DB):Option Bool:=
 (qv n a).bind λb=>
 some (decide (b≥0))
def qau(n:Nat)(a:DB)(b c:Int):Option Bool:=
 (qbi n b c).bind λd=>
 bif(!d)then
 some true
 else
 (qg n a).bind λe=>
 some e
def qk_B0(n:Nat)(c:DJ)(d a:Int):Option (EAN⊕EAK):=
 bif(decide (a<d))then
 (aV c a).bind λb=>
 (qau n b.1 b.2.1 b.2.2).bind λe=>
 bif e then
 some (Sum.inr (Sum.inl a))
 else
 some (Sum.inl (c,(d,(aR .i64 a 1))))
 else
 some (Sum.inr (Sum.inr ()))
def qk_W0(n:Nat)(s:DJ×Int×Int):Option EAK:=b8 (λs=>qk_B0 n s.1 s.2.1 s.2.2) n s
def qk(n:Nat)(a:DJ):Option Int:=
 (qk_W0 n (a,((aF a),0))).bind λb=>
 Sum.rec (λc=>
 some c) (λd=>
 some (-1)) b
def qb(n:Nat)(a:DJ):Option Bool:=
 (qk n a).bind λb=>
 some (decide (b≥0))
def qbh(n:Nat)(b:DH)(a:DI)(c:DJ)(d:DC)(e:DE):Option Int:=
 (qai n b a c d e).bind λf=>
 bif(f.2 !=0)then
 some f.2
 else
 (qbh_W0 n ((a,((aF a),0)),(b,(a,(c,(d,e)))))).bind λg=>
 Sum.rec (λh=>
 some h.1) (λi=>
 (qb n i.2.2.1).bind λj=>
 bif j then
 some 1
 else
 some 0) g
def qbt(n:Nat)(b:DH)(a:DI)(c:DJ)(d:DC)(e:DE):Option Bool:=
 (qbh n b a c d e).bind λf=>
 bif(f==0)then
 (aV a 0).bind λg=>
 bif((aF g.1)==0)then
 (aV a 0).bind λh=>
 some (h.2.1==1)
 else
 some false
 else
 some false
def Eb(n:Nat)(a:DB):Option DB:=
 bif(List.isEmpty a)then
 Go.Ab.amb (
 some ([]:List EAA)) (
 bif(Nat.ble (List.length a) 4294967296)then
 some a
 else none)
 else
 bif(Nat.ble (List.length a) 4294967296)then
 some a
 else none
def qbc(n:Nat)(a:DB):Option DB:=
 bif(Nat.ble (List.length a) 4294967296)then
 some a
 else none
theorem qbc_amb(n:Nat)(s:DB):Eb n s=qbc n s:=by
 cases s with
 |nil=>exact(if_pos rfl)
 |cons x l=>rfl
def qbv(n:Nat)(a:DB):Option EAU:=
 bif((decide (0≤(aF a)))&&(decide ((aF a)≤(((List.length a):Nat):Int))))then
 bif((decide (0≤(aF a)))&&(decide ((aF a)≤(((Int.toNat (aF a)):Nat):Int))))then
 some ((0,((Int.toNat (aF a))-0)),a)
 else none
 else none
def qby(n:Nat)(a b:Int):Option Bool:=
 bif(a==2)then
 some true
 else
 bif(a==3)then
 some true
 else
 bif(a==4)then
 some true
 else
 bif(a==6)then
 some true
 else
 bif(a==7)then
 some true
 else
 some false
def qbx(n:Nat)(b c a d:Int):Option Bool:=
 bif((b==a)&&(c==d))then
 some true
 else
 bif(a==8)then
 some true
 else
 (qby n b c).bind λe=>
 bif e then
 (qby n a d).bind λf=>
 bif f then
 bif(b==6)then
 some true
 else
 some (a==7)
 else
 some false
 else
 some false
def qbj(n:Nat)(a b c d:Int):Option EAA:=
 (qbx n a b c d).bind λe=>
 bif e then
 some (c,d)
 else
 (qbx n c d a b).bind λf=>
 bif f then
 some (a,b)
 else
 (qby n a b).bind λg=>
 bif g then
 (qby n c d).bind λh=>
 bif h then
 some (7,0)
 else
 some (8,0)
 else
 some (8,0)
def qn_B0(n:Nat)(a:Int)(f:Nat)(o:Bool)(i:DB)(j b:Int)(k:DH×DI×DJ×DC×DE×Int)(c:DL):Option ((EAI×EAD×DL)⊕((Int×Bool)×EAD×DL)):=
 bif(decide (b<j))then
 (aV i b).bind λp=>
 bif(decide (0≤a))then
 (c[(Int.toNat a)]?).bind λd=>
 (c[f]?).bind λu=>
 bif(Nat.beq f (Int.toNat a))then
 bif((decide (0≤b))&&(decide (b<(((List.length d.2):Nat):Int))))then
 (d.2[(Int.toNat b)]?).bind λq=>
 (qbj n q.1 q.2 p.1 p.2).bind λl=>
 (c[(Int.toNat a)]?).bind λe=>
 bif(decide (0≤a))then
 ((List.set c (Int.toNat a) (e.1,d.2))[(Int.toNat a)]?).bind λg=>
 ((List.set c (Int.toNat a) (e.1,d.2))[f]?).bind λv=>
 bif(Nat.beq f (Int.toNat a))then
 bif((decide (0≤b))&&(decide (b<(((List.length g.2):Nat):Int))))then
 (g.2[(Int.toNat b)]?).bind λr=>
 bif(!((l.1==r.1)&&(l.2==r.2)))then
 ((List.set c (Int.toNat a) (e.1,d.2))[(Int.toNat a)]?).bind λh=>
 bif(decide (0≤a))then
 ((List.set (List.set c (Int.toNat a) (e.1,d.2)) (Int.toNat a) (h.1,g.2))[(Int.toNat a)]?).bind λm=>
 ((List.set (List.set c (Int.toNat a) (e.1,d.2)) (Int.toNat a) (h.1,g.2))[f]?).bind λw=>
 bif(Nat.beq f (Int.toNat a))then
 bif((decide (0≤b))&&(decide (b<(((List.length m.2):Nat):Int))))then
 bif(Nat.ble ((Int.toNat b)+1) (List.length m.2))then
 ((List.set (List.set c (Int.toNat a) (e.1,d.2)) (Int.toNat a) (h.1,g.2))[(Int.toNat a)]?).bind λs=>
 some (Sum.inl ((a,(f,(true,(i,(j,(aR .i64 b 1)))))),(k,(List.set (List.set (List.set c (Int.toNat a) (e.1,d.2)) (Int.toNat a) (h.1,g.2)) (Int.toNat a) (s.1,(List.set m.2 (Int.toNat b) l))))))
 else none
 else none
 else none
 else none
 else
 ((List.set c (Int.toNat a) (e.1,d.2))[(Int.toNat a)]?).bind λt=>
 some (Sum.inl ((a,(f,(o,(i,(j,(aR .i64 b 1)))))),(k,(List.set (List.set c (Int.toNat a) (e.1,d.2)) (Int.toNat a) (t.1,g.2)))))
 else none
 else none
 else none
 else none
 else none
 else none
 else
 some (Sum.inr ((a,o),(k,c)))
def qn_W0(n:Nat)(s:EAI×EAD×DL):Option ((Int×Bool)×EAD×DL):=b8 (λs=>qn_B0 n s.1.1 s.1.2.1 s.1.2.2.1 s.1.2.2.2.1 s.1.2.2.2.2.1 s.1.2.2.2.2.2 s.2.1 s.2.2) n s
def qn(n:Nat)(a:Int)(f:DB)(d:DH×DI×DJ×DC×DE×Int)(c:DL):Option (EAR⊕((Bool×EAD×DL)⊕(EAR⊕(Bool×EAD×DL)))):=
 bif((decide (0≤a))&&(decide (a<(((List.length c):Nat):Int))))then
 (c[(Int.toNat a)]?).bind λi=>
 bif(!i.1)then
 (qbc n f).bind λj=>
 (qbv n j).bind λe=>
 (c[(Int.toNat a)]?).bind λg=>
 ((List.set c (Int.toNat a) (true,g.2))[(Int.toNat a)]?).bind λo=>
 bif(Nat.ble (List.length (a::([]:DD))) 4294967296)then
 bif(Nat.beq e.1.1 0)then
 bif(Nat.ble e.1.2 (List.length e.2))then
 ((List.set c (Int.toNat a) (true,g.2))[(Int.toNat a)]?).bind λk=>
 some (Sum.inl (true,((d.1,(d.2.1,(d.2.2.1,(d.2.2.2.1,(d.2.2.2.2.1,(d.2.2.2.2.2,(0,(List.length (a::([]:DD)))))))))),((List.set (List.set c (Int.toNat a) (true,g.2)) (Int.toNat a) (k.1,(List.take e.1.2 e.2))),(a::([]:DD))))))
 else none
 else none
 else none
 else
 (c[(Int.toNat a)]?).bind λh=>
 bif((aF h.2) !=(aF f))then
 (c[(Int.toNat a)]?).bind λl=>
 some (Sum.inr (Sum.inl (false,(d,(List.set c (Int.toNat a) (l.1,h.2))))))
 else
 (c[(Int.toNat a)]?).bind λm=>
 (qn_W0 n ((a,((Int.toNat a),(false,(f,((aF f),0))))),(d,(List.set c (Int.toNat a) (m.1,h.2))))).bind λb=>
 bif b.1.2 then
 bif(Nat.ble (List.length (b.1.1::([]:DD))) 4294967296)then
 some (Sum.inr (Sum.inr (Sum.inl (true,((b.2.1.1,(b.2.1.2.1,(b.2.1.2.2.1,(b.2.1.2.2.2.1,(b.2.1.2.2.2.2.1,(b.2.1.2.2.2.2.2,(0,(List.length (b.1.1::([]:DD)))))))))),(b.2.2,(b.1.1::([]:DD))))))))
 else none
 else
 some (Sum.inr (Sum.inr (Sum.inr (true,b.2))))
 else none
def qbd(n:Nat)(a:DB):Option DB:=
 some a
def qbm(n:Nat)(b:Int)(a:DB):Option ((DB×DB)×Bool):=
 bif(b==6)then
 bif(decide ((aF a)≥1))then
 (aV a (iK .i64 (aF a) 1)).bind λc=>
 (qbd n (c::([]:List EAA))).bind λd=>
 (qbd n (c::(c::([]:List EAA)))).bind λe=>
 some ((d,e),true)
 else
 bif(b==7)then
 bif(decide ((aF a)≥2))then
 (aV a (iK .i64 (aF a) 2)).bind λf=>
 (aV a (iK .i64 (aF a) 1)).bind λg=>
 (qbd n (f::(g::([]:List EAA)))).bind λh=>
 (aV a (iK .i64 (aF a) 1)).bind λi=>
 (aV a (iK .i64 (aF a) 2)).bind λj=>
 (qbd n (i::(j::([]:List EAA)))).bind λk=>
 some ((h,k),true)
 else
 bif(b==41)then
 bif(decide ((aF a)≥1))then
 (aV a (iK .i64 (aF a) 1)).bind λl=>
 bif(l.1==5)then
 (aV a (iK .i64 (aF a) 1)).bind λm=>
 (qbd n (m::([]:List EAA))).bind λo=>
 some ((o,[]),true)
 else
 some (([],[]),false)
 else
 some (([],[]),false)
 else
 some (([],[]),false)
 else
 bif(b==41)then
 bif(decide ((aF a)≥1))then
 (aV a (iK .i64 (aF a) 1)).bind λp=>
 bif(p.1==5)then
 (aV a (iK .i64 (aF a) 1)).bind λq=>
 (qbd n (q::([]:List EAA))).bind λr=>
 some ((r,[]),true)
 else
 some (([],[]),false)
 else
 some (([],[]),false)
 else
 some (([],[]),false)
 else
 bif(b==7)then
 bif(decide ((aF a)≥2))then
 (aV a (iK .i64 (aF a) 2)).bind λs=>
 (aV a (iK .i64 (aF a) 1)).bind λt=>
 (qbd n (s::(t::([]:List EAA)))).bind λu=>
 (aV a (iK .i64 (aF a) 1)).bind λv=>
 (aV a (iK .i64 (aF a) 2)).bind λw=>
 (qbd n (v::(w::([]:List EAA)))).bind λx=>
 some ((u,x),true)
 else
 bif(b==41)then
 bif(decide ((aF a)≥1))then
 (aV a (iK .i64 (aF a) 1)).bind λy=>
 bif(y.1==5)then
 (aV a (iK .i64 (aF a) 1)).bind λz=>
 (qbd n (z::([]:List EAA))).bind λaa=>
 some ((aa,[]),true)
 else
 some (([],[]),false)
 else
 some (([],[]),false)
 else
 some (([],[]),false)
 else
 bif(b==41)then
 bif(decide ((aF a)≥1))then
 (aV a (iK .i64 (aF a) 1)).bind λab=>
 bif(ab.1==5)then
 (aV a (iK .i64 (aF a) 1)).bind λac=>
 (qbd n (ac::([]:List EAA))).bind λad=>
 some ((ad,[]),true)
 else
 some (([],[]),false)
 else
 some (([],[]),false)
 else
 some (([],[]),false)
def qbe(n:Nat)(a:Int):Option ((DB×DB)×Bool):=
 bif(a==2)then
 (qbd n ((6,0)::([]:List EAA))).bind λd=>
 some (([],d),true)
 else
 bif(a==5)then
 (qbd n ((8,0)::([]:List EAA))).bind λe=>
 some ((e,[]),true)
 else
 bif(a==22)then
 (qbd n ((1,0)::((1,0)::([]:List EAA)))).bind λf=>
 (qbd n ((1,0)::((1,0)::([]:List EAA)))).bind λg=>
 some ((f,g),true)
 else
 bif(a==23)then
 some (([],[]),true)
 else
 bif(a==24)then
 (qbd n ((1,0)::([]:List EAA))).bind λh=>
 some ((h,[]),true)
 else
 bif(a==31)then
 (qbd n ((1,0)::([]:List EAA))).bind λi=>
 (qbd n ((3,0)::([]:List EAA))).bind λj=>
 some ((i,j),true)
 else
 bif(a==32)then
 (qbd n ((3,0)::((1,0)::([]:List EAA)))).bind λk=>
 (qbd n ((1,0)::([]:List EAA))).bind λl=>
 some ((k,l),true)
 else
 bif(a==33)then
 (qbd n ((3,0)::((1,0)::((1,0)::([]:List EAA))))).bind λm=>
 some ((m,[]),true)
 else
 bif(a==34)then
 (qbd n ((3,0)::([]:List EAA))).bind λo=>
 (qbd n ((1,0)::([]:List EAA))).bind λp=>
 some ((o,p),true)
 else
 bif(a==35)then
 (qbd n ((1,0)::([]:List EAA))).bind λq=>
 (qbd n ((2,0)::([]:List EAA))).bind λr=>
 some ((q,r),true)
 else
 bif(a==36)then
 (qbd n ((2,0)::((1,0)::([]:List EAA)))).bind λs=>
 (qbd n ((1,0)::([]:List EAA))).bind λt=>
 some ((s,t),true)
 else
 bif(a==37)then
 (qbd n ((2,0)::((1,0)::((1,0)::([]:List EAA))))).bind λu=>
 some ((u,[]),true)
 else
 bif(a==38)then
 (qbd n ((2,0)::([]:List EAA))).bind λv=>
 (qbd n ((1,0)::([]:List EAA))).bind λw=>
 some ((v,w),true)
 else
 bif(a==39)then
 (qbd n ((7,0)::([]:List EAA))).bind λx=>
 (qbd n ((1,0)::([]:List EAA))).bind λy=>
 some ((x,y),true)
 else
 bif(a==40)then
 (qbd n ((7,0)::((7,0)::([]:List EAA)))).bind λz=>
 (qbd n ((1,0)::([]:List EAA))).bind λaa=>
 some ((z,aa),true)
 else
 (qbd n ((1,0)::((1,0)::([]:List EAA)))).bind λb=>
 (qbd n ((1,0)::([]:List EAA))).bind λc=>
 bif(decide (a≥8))then
 some ((b,c),(decide (a≤21)))
 else
 some ((b,c),false)
def qba(n:Nat)(b:DB)(g h:Int)(c:DB)(i:DA)(a:Int):Option EAA:=
 bif(decide (a≥0))then
 bif(decide (a<(aF b)))then
 (aV b a).bind λd=>
 some d
 else
 bif(decide (a≥0))then
 bif(decide (a<(aR .i64 (aF b) (aF c))))then
 (aV c (iK .i64 a (aF b))).bind λe=>
 some e
 else
 some (8,0)
 else
 some (8,0)
 else
 bif(decide (a≥0))then
 bif(decide (a<(aR .i64 (aF b) (aF c))))then
 (aV c (iK .i64 a (aF b))).bind λf=>
 some f
 else
 some (8,0)
 else
 some (8,0)
def qbf(n:Nat)(c:DH)(f:DI)(g:DJ)(ai:DC)(aj:DE)(h:DB)(d e:Int)(i:DB)(j:DA)(b a k:Int):Option (DB×DB):=
 bif(b==0)then
 (qbd n ((1,0)::([]:List EAA))).bind λm=>
 some ([],m)
 else
 bif(b==1)then
 (qbd n ((2,0)::([]:List EAA))).bind λo=>
 some ([],o)
 else
 bif(b==3)then
 (qba n h d e i j a).bind λp=>
 (qbd n (p::([]:List EAA))).bind λq=>
 some ([],q)
 else
 bif(b==4)then
 (qba n h d e i j a).bind λr=>
 (qbd n (r::([]:List EAA))).bind λs=>
 some (s,[])
 else
 bif(b==25)then
 (aV f a).bind λt=>
 (aV f a).bind λl=>
 (qbd n ((l.2.1,l.2.2.1)::([]:List EAA))).bind λu=>
 some (t.1,u)
 else
 bif(b==26)then
 (qbd n ((d,e)::([]:List EAA))).bind λv=>
 some (v,[])
 else
 bif(b==27)then
 (aV g a).bind λw=>
 (aV g a).bind λx=>
 (qbd n (x.2::([]:List EAA))).bind λy=>
 some (w.1,y)
 else
 bif(b==28)then
 (aV c a).bind λz=>
 (qbd n ((4,a)::([]:List EAA))).bind λaa=>
 some (z,aa)
 else
 bif(b==29)then
 (qbd n ((4,a)::([]:List EAA))).bind λab=>
 (aV c a).bind λac=>
 (aV ac k).bind λad=>
 (qbd n (ad::([]:List EAA))).bind λae=>
 some (ab,ae)
 else
 (aV c a).bind λaf=>
 (aV af k).bind λag=>
 (qbd n ((4,a)::(ag::([]:List EAA)))).bind λah=>
 some (ah,[])
def qcb(n:Nat)(d:DH)(e:DI)(f:DJ)(g:DC)(h:DE)(i:DB)(j k:Int)(l:DB)(m:DA)(a o p:Int)(b:DB):Option ((DB×DB)×Bool):=
 bif(a==6)then
 (qbm n a b).bind λq=>
 some q
 else
 bif(a==7)then
 (qbm n a b).bind λr=>
 some r
 else
 bif(a==41)then
 (qbm n a b).bind λs=>
 some s
 else
 (qbe n a).bind λc=>
 bif c.2 then
 some (c.1,true)
 else
 (qbf n d e f g h i j k l m a o p).bind λt=>
 some (t,true)
def qbq_B0(n:Nat)(l:Int)(b:DB)(c:Int)(m:DB)(o a:Int)(d:DB)(e f:Int)(g:DB)(h:DA)(i j:DB):Option (((Int×DB×Int×DB×Int×Int)×EAH×DB×DB)⊕(((DB×DC×Int)×EAH×(DB×DB)×Int×Int)⊕((Int×DB×Int)×EAH×DB×DB))):=
 bif(decide (a<o))then
 (aV m a).bind λk=>
 (aV b (aR .i64 c a)).bind λp=>
 (qbx n p.1 p.2 k.1 k.2).bind λq=>
 bif(!q)then
 some (Sum.inr (Sum.inl ((([]:List EAA),(([]:DD),4)),((d,(e,(f,(g,h)))),((i,j),k)))))
 else
 some (Sum.inl ((l,(b,(c,(m,(o,(aR .i64 a 1)))))),((d,(e,(f,(g,h)))),(i,j))))
 else
 some (Sum.inr (Sum.inr ((l,(b,c)),((d,(e,(f,(g,h)))),(i,j)))))
def qbq_W0(n:Nat)(s:(Int×DB×Int×DB×Int×Int)×EAH×DB×DB):Option (((DB×DC×Int)×EAH×(DB×DB)×Int×Int)⊕((Int×DB×Int)×EAH×DB×DB)):=b8 (λs=>qbq_B0 n s.1.1 s.1.2.1 s.1.2.2.1 s.1.2.2.2.1 s.1.2.2.2.2.1 s.1.2.2.2.2.2 s.2.1.1 s.2.1.2.1 s.2.1.2.2.1 s.2.1.2.2.2.1 s.2.1.2.2.2.2 s.2.2.1 s.2.2.2) n s
def qbk(n:Nat)(a b d c:Int):Option DC:=
 bif(a==26)then
 some ([]:DD)
 else
 bif(a==23)then
 some (b::([]:DD))
 else
 bif(a==24)then
 some ((aR .i64 c 1)::(b::([]:DD)))
 else
 some ((aR .i64 c 1)::([]:DD))
def qat_B0(n:Nat)(c:DH)(a:Int)(d:DH)(e b:Int):Option ((DH×Int×DH×Int×Int)⊕(DH×Int)):=
 bif(decide (b<e))then
 (aV d b).bind λf=>
 bif(decide ((aR .i64 a (aF f))<0))then
 none
 else
 some (Sum.inl (c,((aR .i64 a (aF f)),(d,(e,(aR .i64 b 1))))))
 else
 some (Sum.inr (c,a))
def qat_W0(n:Nat)(s:DH×Int×DH×Int×Int):Option (DH×Int):=b8 (λs=>qat_B0 n s.1 s.2.1 s.2.2.1 s.2.2.2.1 s.2.2.2.2) n s
def qbo(n:Nat)(a:Int):Option (EAU⊕Unit):=
 bif(decide (a<0))then
 none
 else
 bif(decide ((iK .i64 a 0)>0))then
 bif((decide (1≤(iK .i64 a 0)))&&(Nat.ble (Int.toNat (iK .i64 a 0)) 4294967296))then
 bif(decide (0≤(((List.length (List.replicate (Int.toNat (iK .i64 a 0)) (0,0))):Nat):Int)))then
 some (Sum.inl ((0,0),(List.replicate (Int.toNat (iK .i64 a 0)) (0,0))))
 else none
 else none
 else
 some (Sum.inr ())
def qat_B2x1q0(n:Nat)(a:Nat×Nat)(d:DH)(e c:Int)(b:DB):Option (((EAQ×DB)⊕((EAF×DB)⊕EAF))⊕(EAU⊕(DB⊕Unit))):=
 bif(decide (c<e))then
 (aV d c).bind λf=>
 bif(Nat.ble (a.1+a.2) (List.length b))then
 bif(Nat.ble (List.length ((List.take a.2 (List.drop a.1 b))++f)) 4294967296)then
 bif(Nat.beq a.1 0)then
 some (Sum.inl (Sum.inr (Sum.inl ((d,(e,(aR .i64 c 1))),((List.take a.2 (List.drop a.1 b))++f)))))
 else none
 else none
 else none
 else
 some (Sum.inr (Sum.inl (a,b)))
def qat_B2x1q1(n:Nat)(c:DH)(d a:Int)(b:DB):Option (((EAQ×DB)⊕((EAF×DB)⊕EAF))⊕(EAU⊕(DB⊕Unit))):=
 bif(decide (a<d))then
 (aV c a).bind λe=>
 bif(Nat.ble (List.length (b++e)) 4294967296)then
 some (Sum.inl (Sum.inr (Sum.inl ((c,(d,(aR .i64 a 1))),(b++e)))))
 else none
 else
 some (Sum.inr (Sum.inr (Sum.inl b)))
def qat_B2x1q2(n:Nat)(b:DH)(c a:Int):Option (((EAQ×DB)⊕((EAF×DB)⊕EAF))⊕(EAU⊕(DB⊕Unit))):=
 bif(decide (a<c))then
 (aV b a).bind λd=>
 bif(Nat.ble (List.length d) 4294967296)then
 some (Sum.inl (Sum.inr (Sum.inl ((b,(c,(aR .i64 a 1))),d))))
 else none
 else
 some (Sum.inr (Sum.inr (Sum.inr ())))
def qat_M2x1(n:Nat)(s:(EAQ×DB)⊕((EAF×DB)⊕EAF)):Option (((EAQ×DB)⊕((EAF×DB)⊕EAF))⊕(EAU⊕(DB⊕Unit))):=Sum.rec (λa=>qat_B2x1q0 n a.1.1 a.1.2.1 a.1.2.2.1 a.1.2.2.2 a.2) (λd=>Sum.rec (λb=>qat_B2x1q1 n b.1.1 b.1.2.1 b.1.2.2 b.2) (λc=>qat_B2x1q2 n c.1 c.2.1 c.2.2) d) s
def qat_W2x1(n:Nat)(s:(EAQ×DB)⊕((EAF×DB)⊕EAF)):Option (EAU⊕(DB⊕Unit)):=b8 (qat_M2x1 n) n s
def qat(n:Nat)(b:DH):Option (EAU⊕DB):=
 (qat_W0 n (b,(0,(b,((aF b),0))))).bind λa=>
 (qbo n a.2).bind λd=>
 Sum.rec (λc=>
 (qat_W2x1 n (Sum.inl ((c.1,(a.1,((aF a.1),0))),c.2))).bind λe=>
 Sum.rec (λf=>
 some (Sum.inl f)) (λg=>
 Sum.rec (λh=>
 some (Sum.inr h)) (λm=>
 some (Sum.inr [])) g) e) (λo=>
 (qat_W2x1 n (Sum.inr (Sum.inr (a.1,((aF a.1),0))))).bind λi=>
 Sum.rec (λj=>
 some (Sum.inl j)) (λk=>
 Sum.rec (λl=>
 some (Sum.inr l)) (λp=>
 some (Sum.inr [])) k) i) d
def qax(n:Nat)(a:DB):Option DB:=
 bif((decide (0≤(aF a)))&&(decide ((aF a)≤(((List.length a):Nat):Int))))then
 bif((decide (0≤(aF a)))&&(decide ((aF a)≤(((Int.toNat (aF a)):Nat):Int))))then
 some (List.take (Int.toNat (aF a)) a)
 else none
 else none
def qas(n:Nat)(a:DB):Option DB:=
 bif((decide (0≤(aF a)))&&(decide ((aF a)≤(((List.length a):Nat):Int))))then
 bif((decide (0≤(aF a)))&&(decide ((aF a)≤(((Int.toNat (aF a)):Nat):Int))))then
 some (List.take (Int.toNat (aF a)) a)
 else none
 else none
def qbq(n:Nat)(l:DH)(j:DI)(m:DJ)(o:DC)(p:DE)(q k:Int)(d:DB):Option (DB×DC×Int):=
 (aV j q).bind λc=>
 (aV c.2.2.2.2 k).bind λf=>
 (qcb n l j m o p c.1 c.2.1 c.2.2.1 c.2.2.2.1 c.2.2.2.2 f.1 f.2.1 f.2.2 d).bind λb=>
 bif(!b.2)then
 some (([]:List EAA),(([]:DD),4))
 else
 bif(decide ((iK .i64 (aF d) (aF b.1.1))<0))then
 some (([]:List EAA),(([]:DD),4))
 else
 bif(decide ((aR .i64 (iK .i64 (aF d) (aF b.1.1)) (aF b.1.2))>8))then
 some (([]:List EAA),(([]:DD),4))
 else
 (qbq_W0 n ((k,(d,((iK .i64 (aF d) (aF b.1.1)),(b.1.1,((aF b.1.1),0))))),(c,b.1))).bind λr=>
 Sum.rec (λs=>
 some s.1) (λa=>
 (aV a.2.1.2.2.2.2 a.1.1).bind λg=>
 (qbk n g.1 g.2.1 g.2.2 a.1.1).bind λe=>
 bif(decide ((aF e)>0))then
 (aV e 0).bind λt=>
 bif(decide (t≥(aF a.2.1.2.2.2.2)))then
 some (([]:List EAA),(([]:DD),1))
 else
 bif((decide (0≤a.1.2.2))&&(decide (a.1.2.2≤(((List.length a.1.2.1):Nat):Int))))then
 (qat n ((List.take (Int.toNat a.1.2.2) a.1.2.1)::(a.2.2.2::([]:List (List EAA))))).bind λu=>
 Sum.rec (λh=>
 bif(Nat.ble (h.1.1+h.1.2) (List.length h.2))then
 none
 else none) (λv=>
 (qax n v).bind λw=>
 some (w,(e,0))) u
 else none
 else
 bif((decide (0≤a.1.2.2))&&(decide (a.1.2.2≤(((List.length a.1.2.1):Nat):Int))))then
 (qat n ((List.take (Int.toNat a.1.2.2) a.1.2.1)::(a.2.2.2::([]:List (List EAA))))).bind λx=>
 Sum.rec (λi=>
 bif(Nat.ble (i.1.1+i.1.2) (List.length i.2))then
 none
 else none) (λy=>
 (qax n y).bind λz=>
 some (z,(e,0))) x
 else none) r
def qe_B0(n:Nat)(a:Int)(f:Nat)(p:Bool)(i:DB)(j b:Int)(k:DH×DI×DJ×DC×DE×Int×EAG)(c:DL)(l:DC):Option ((EAI×EAB×DL×DC)⊕((Int×Bool)×EAB×DL×DC)):=
 bif(decide (b<j))then
 (aV i b).bind λq=>
 bif(decide (0≤a))then
 (c[(Int.toNat a)]?).bind λd=>
 (c[f]?).bind λv=>
 bif(Nat.beq f (Int.toNat a))then
 bif((decide (0≤b))&&(decide (b<(((List.length d.2):Nat):Int))))then
 (d.2[(Int.toNat b)]?).bind λr=>
 (qbj n r.1 r.2 q.1 q.2).bind λm=>
 (c[(Int.toNat a)]?).bind λe=>
 bif(decide (0≤a))then
 ((List.set c (Int.toNat a) (e.1,d.2))[(Int.toNat a)]?).bind λg=>
 ((List.set c (Int.toNat a) (e.1,d.2))[f]?).bind λw=>
 bif(Nat.beq f (Int.toNat a))then
 bif((decide (0≤b))&&(decide (b<(((List.length g.2):Nat):Int))))then
 (g.2[(Int.toNat b)]?).bind λs=>
 bif(!((m.1==s.1)&&(m.2==s.2)))then
 ((List.set c (Int.toNat a) (e.1,d.2))[(Int.toNat a)]?).bind λh=>
 bif(decide (0≤a))then
 ((List.set (List.set c (Int.toNat a) (e.1,d.2)) (Int.toNat a) (h.1,g.2))[(Int.toNat a)]?).bind λo=>
 ((List.set (List.set c (Int.toNat a) (e.1,d.2)) (Int.toNat a) (h.1,g.2))[f]?).bind λx=>
 bif(Nat.beq f (Int.toNat a))then
 bif((decide (0≤b))&&(decide (b<(((List.length o.2):Nat):Int))))then
 bif(Nat.ble ((Int.toNat b)+1) (List.length o.2))then
 ((List.set (List.set c (Int.toNat a) (e.1,d.2)) (Int.toNat a) (h.1,g.2))[(Int.toNat a)]?).bind λt=>
 some (Sum.inl ((a,(f,(true,(i,(j,(aR .i64 b 1)))))),(k,((List.set (List.set (List.set c (Int.toNat a) (e.1,d.2)) (Int.toNat a) (h.1,g.2)) (Int.toNat a) (t.1,(List.set o.2 (Int.toNat b) m))),l))))
 else none
 else none
 else none
 else none
 else
 ((List.set c (Int.toNat a) (e.1,d.2))[(Int.toNat a)]?).bind λu=>
 some (Sum.inl ((a,(f,(p,(i,(j,(aR .i64 b 1)))))),(k,((List.set (List.set c (Int.toNat a) (e.1,d.2)) (Int.toNat a) (u.1,g.2)),l))))
 else none
 else none
 else none
 else none
 else none
 else none
 else
 some (Sum.inr ((a,p),(k,(c,l))))
def qe_W0(n:Nat)(s:EAI×EAB×DL×DC):Option ((Int×Bool)×EAB×DL×DC):=b8 (λs=>qe_B0 n s.1.1 s.1.2.1 s.1.2.2.1 s.1.2.2.2.1 s.1.2.2.2.2.1 s.1.2.2.2.2.2 s.2.1 s.2.2.1 s.2.2.2) n s
def qe(n:Nat)(b:Int)(g:DB)(c:DH×DI×DJ×DC×DE×Int×EAG)(d:DL)(e:DC):Option (EAR⊕(EAR⊕EAR)):=
 bif((decide (0≤b))&&(decide (b<(((List.length d):Nat):Int))))then
 (d[(Int.toNat b)]?).bind λj=>
 bif(!j.1)then
 (qbc n g).bind λk=>
 (qbv n k).bind λf=>
 (d[(Int.toNat b)]?).bind λh=>
 ((List.set d (Int.toNat b) (true,h.2))[(Int.toNat b)]?).bind λp=>
 bif(Nat.ble (c.2.2.2.2.2.2.1+c.2.2.2.2.2.2.2) (List.length e))then
 bif(Nat.ble (List.length ((List.take c.2.2.2.2.2.2.2 (List.drop c.2.2.2.2.2.2.1 e))++(b::([]:DD)))) 4294967296)then
 bif((Nat.beq c.2.2.2.2.2.2.1 0)||(Nat.ble 1 (List.length ((List.take c.2.2.2.2.2.2.2 (List.drop c.2.2.2.2.2.2.1 e))++(b::([]:DD))))))then
 bif(Nat.beq f.1.1 0)then
 bif(Nat.ble f.1.2 (List.length f.2))then
 ((List.set d (Int.toNat b) (true,h.2))[(Int.toNat b)]?).bind λl=>
 some (Sum.inl (true,((c.1,(c.2.1,(c.2.2.1,(c.2.2.2.1,(c.2.2.2.2.1,(c.2.2.2.2.2.1,(0,(List.length ((List.take c.2.2.2.2.2.2.2 (List.drop c.2.2.2.2.2.2.1 e))++(b::([]:DD))))))))))),((List.set (List.set d (Int.toNat b) (true,h.2)) (Int.toNat b) (l.1,(List.take f.1.2 f.2))),((List.take c.2.2.2.2.2.2.2 (List.drop c.2.2.2.2.2.2.1 e))++(b::([]:DD)))))))
 else none
 else none
 else none
 else none
 else none
 else
 (d[(Int.toNat b)]?).bind λi=>
 bif((aF i.2) !=(aF g))then
 (d[(Int.toNat b)]?).bind λm=>
 some (Sum.inr (Sum.inl (false,(c,((List.set d (Int.toNat b) (m.1,i.2)),e)))))
 else
 (d[(Int.toNat b)]?).bind λo=>
 (qe_W0 n ((b,((Int.toNat b),(false,(g,((aF g),0))))),(c,((List.set d (Int.toNat b) (o.1,i.2)),e)))).bind λa=>
 bif a.1.2 then
 bif(Nat.ble (a.2.1.2.2.2.2.2.2.1+a.2.1.2.2.2.2.2.2.2) (List.length a.2.2.2))then
 bif(Nat.ble (List.length ((List.take a.2.1.2.2.2.2.2.2.2 (List.drop a.2.1.2.2.2.2.2.2.1 a.2.2.2))++(a.1.1::([]:DD)))) 4294967296)then
 bif((Nat.beq a.2.1.2.2.2.2.2.2.1 0)||(Nat.ble 1 (List.length ((List.take a.2.1.2.2.2.2.2.2.2 (List.drop a.2.1.2.2.2.2.2.2.1 a.2.2.2))++(a.1.1::([]:DD))))))then
 some (Sum.inr (Sum.inr (true,((a.2.1.1,(a.2.1.2.1,(a.2.1.2.2.1,(a.2.1.2.2.2.1,(a.2.1.2.2.2.2.1,(a.2.1.2.2.2.2.2.1,(0,(List.length ((List.take a.2.1.2.2.2.2.2.2.2 (List.drop a.2.1.2.2.2.2.2.2.1 a.2.2.2))++(a.1.1::([]:DD))))))))))),(a.2.2.1,((List.take a.2.1.2.2.2.2.2.2.2 (List.drop a.2.1.2.2.2.2.2.2.1 a.2.2.2))++(a.1.1::([]:DD))))))))
 else none
 else none
 else none
 else
 some (Sum.inr (Sum.inr (true,a.2)))
 else none
def qp_B0(n:Nat)(a:Int)(c:DB)(d:DC)(e b:Int)(i:DH×DI×DJ×DC×DE×Int×EAG)(j:DL)(k:DC):Option (((Int×DB×DC×Int×Int)×EAB×DL×DC)⊕(EAO⊕(EAO⊕(EAO⊕EAS)))):=
 bif(decide (b<e))then
 (aV d b).bind λl=>
 (qe n l c i j k).bind λm=>
 Sum.rec (λf=>
 bif(!f.1)then
 some (Sum.inr (Sum.inl ((a,4),f.2)))
 else
 some (Sum.inl ((a,(c,(d,(e,(aR .i64 b 1))))),f.2))) (λo=>
 Sum.rec (λg=>
 bif(!g.1)then
 some (Sum.inr (Sum.inr (Sum.inl ((a,4),g.2))))
 else
 some (Sum.inl ((a,(c,(d,(e,(aR .i64 b 1))))),g.2))) (λh=>
 bif(!h.1)then
 some (Sum.inr (Sum.inr (Sum.inr (Sum.inl ((a,4),h.2)))))
 else
 some (Sum.inl ((a,(c,(d,(e,(aR .i64 b 1))))),h.2))) o) m
 else
 some (Sum.inr (Sum.inr (Sum.inr (Sum.inr (i,(j,k))))))
def qp_W0(n:Nat)(s:(Int×DB×DC×Int×Int)×EAB×DL×DC):Option (EAO⊕(EAO⊕(EAO⊕EAS))):=b8 (λs=>qp_B0 n s.1.1 s.1.2.1 s.1.2.2.1 s.1.2.2.2.1 s.1.2.2.2.2 s.2.1 s.2.2.1 s.2.2.2) n s
def qp(n:Nat)(a:DH×DI×DJ×DC×DE×Int×EAG)(c:DL)(e:DC):Option (EAO⊕EAO):=
 bif(decide (0<((a.2.2.2.2.2.2.2:Nat):Int)))then
 (e[(a.2.2.2.2.2.2.1+0)]?).bind λb=>
 bif(decide (1≤((a.2.2.2.2.2.2.2:Nat):Int)))then
 bif(decide (0≤b))then
 (c[(Int.toNat b)]?).bind λf=>
 bif((decide (0≤b))&&(decide (b<(((List.length c):Nat):Int))))then
 (c[(Int.toNat b)]?).bind λq=>
 bif(Nat.beq (Int.toNat b) (Int.toNat b))then
 (qbq n a.1 a.2.1 a.2.2.1 a.2.2.2.1 a.2.2.2.2.1 a.2.2.2.2.2.1 b f.2).bind λd=>
 bif(d.2.2 !=0)then
 (c[(Int.toNat b)]?).bind λg=>
 some (Sum.inl ((b,4),((a.1,(a.2.1,(a.2.2.1,(a.2.2.2.1,(a.2.2.2.2.1,(a.2.2.2.2.2.1,((a.2.2.2.2.2.2.1+1),(a.2.2.2.2.2.2.2-1)))))))),((List.set c (Int.toNat b) (g.1,f.2)),e))))
 else
 (c[(Int.toNat b)]?).bind λh=>
 (qp_W0 n ((b,(d.1,(d.2.1,((aF d.2.1),0)))),((a.1,(a.2.1,(a.2.2.1,(a.2.2.2.1,(a.2.2.2.2.1,(a.2.2.2.2.2.1,((a.2.2.2.2.2.2.1+1),(a.2.2.2.2.2.2.2-1)))))))),((List.set c (Int.toNat b) (h.1,f.2)),e)))).bind λi=>
 Sum.rec (λj=>
 some (Sum.inr j)) (λk=>
 Sum.rec (λl=>
 some (Sum.inr l)) (λm=>
 Sum.rec (λo=>
 some (Sum.inr o)) (λp=>
 some (Sum.inr ((0,0),p))) m) k) i
 else none
 else none
 else none
 else none
 else none
def qa_B500x1q0(n:Nat)(a:DH×DI×DJ×DC×DE×Int×EAG)(d:DL)(e:DC):Option ((EAS⊕(EAD×DL))⊕(EAO⊕(EAO⊕EAV))):=
 bif(((a.2.2.2.2.2.2.2:Nat):Int)==0)then
 some (Sum.inr (Sum.inl ((0,0),(a,(d,e)))))
 else
 (qp n a d e).bind λf=>
 Sum.rec (λb=>
 bif(b.1.2 !=0)then
 some (Sum.inr (Sum.inl b))
 else
 some (Sum.inl (Sum.inl b.2))) (λc=>
 bif(c.1.2 !=0)then
 some (Sum.inr (Sum.inr (Sum.inl c)))
 else
 some (Sum.inl (Sum.inl c.2))) f
def qa_B500x1q1(n:Nat)(a:DH×DI×DJ×DC×DE×Int)(b:DL):Option ((EAS⊕(EAD×DL))⊕(EAO⊕(EAO⊕EAV))):=
 some (Sum.inr (Sum.inr (Sum.inr ((0,0),(a,b)))))
def qa_M500x1(n:Nat)(s:EAS⊕(EAD×DL)):Option ((EAS⊕(EAD×DL))⊕(EAO⊕(EAO⊕EAV))):=Sum.rec (λa=>qa_B500x1q0 n a.1 a.2.1 a.2.2) (λb=>qa_B500x1q1 n b.1 b.2) s
def qa_W500x1(n:Nat)(s:EAS⊕(EAD×DL)):Option (EAO⊕(EAO⊕EAV)):=b8 (qa_M500x1 n) n s
def qa(n:Nat)(b:DH×DI×DJ×DC×DE×Int):Option (EAO⊕EAV):=
 (aV b.2.1 b.2.2.2.2.2).bind λa=>
 bif((((aF a.2.2.2.2)==(aF a.2.2.2.2))&&(decide (0≤(aF a.2.2.2.2))))&&(Nat.ble (Int.toNat (aF a.2.2.2.2)) 4294967296))then
 (qn n 0 ([]:List EAA) b (List.replicate (Int.toNat (aF a.2.2.2.2)) (false,([]:List EAA)))).bind λc=>
 Sum.rec (λd=>
 (qa_W500x1 n (Sum.inl d.2)).bind λe=>
 Sum.rec (λf=>
 some (Sum.inl f)) (λg=>
 Sum.rec (λh=>
 some (Sum.inl h)) (λi=>
 some (Sum.inr i)) g) e) (λj=>
 Sum.rec (λk=>
 (qa_W500x1 n (Sum.inr k.2)).bind λl=>
 Sum.rec (λm=>
 some (Sum.inl m)) (λo=>
 Sum.rec (λp=>
 some (Sum.inl p)) (λq=>
 some (Sum.inr q)) o) l) (λr=>
 Sum.rec (λs=>
 (qa_W500x1 n (Sum.inl s.2)).bind λt=>
 Sum.rec (λu=>
 some (Sum.inl u)) (λv=>
 Sum.rec (λw=>
 some (Sum.inl w)) (λx=>
 some (Sum.inr x)) v) t) (λy=>
 (qa_W500x1 n (Sum.inr y.2)).bind λz=>
 Sum.rec (λaa=>
 some (Sum.inl aa)) (λab=>
 Sum.rec (λac=>
 some (Sum.inl ac)) (λad=>
 some (Sum.inr ad)) ab) z) r) j) c
 else none
def qan_B1(n:Nat)(j c:Int)(d:DH)(e:DI)(f:DJ)(g:DC)(h:DE)(a:DM):Option ((EAA×EAE×DM)⊕((EAC×EAE×DM×EAB×DL×DC×DM)⊕((EAC×EAE×DM×EAD×DL×DM)⊕(EAE×DM)))):=
 bif(decide (c<j))then
 (qa n (d,(e,(f,(g,(h,c)))))).bind λk=>
 Sum.rec (λb=>
 bif(b.1.2 !=0)then
 some (Sum.inr (Sum.inl ((c,b.1),((d,(e,(f,(g,h)))),(a,(b.2.1,(b.2.2.1,(b.2.2.2,([]:List (List (Bool×List EAA)))))))))))
 else
 bif(Nat.ble (List.length (a++(b.2.2.1::([]:List (List (Bool×List EAA)))))) 4294967296)then
 some (Sum.inl ((j,(aR .i64 c 1)),((d,(e,(f,(g,h)))),(a++(b.2.2.1::([]:List (List (Bool×List EAA))))))))
 else none) (λi=>
 bif(i.1.2 !=0)then
 some (Sum.inr (Sum.inr (Sum.inl ((c,i.1),((d,(e,(f,(g,h)))),(a,(i.2.1,(i.2.2,([]:List (List (Bool×List EAA)))))))))))
 else
 bif(Nat.ble (List.length (a++(i.2.2::([]:List (List (Bool×List EAA)))))) 4294967296)then
 some (Sum.inl ((j,(aR .i64 c 1)),((d,(e,(f,(g,h)))),(a++(i.2.2::([]:List (List (Bool×List EAA))))))))
 else none) k
 else
 some (Sum.inr (Sum.inr (Sum.inr ((d,(e,(f,(g,h)))),a))))
def qan_W1(n:Nat)(s:EAA×EAE×DM):Option ((EAC×EAE×DM×EAB×DL×DC×DM)⊕((EAC×EAE×DM×EAD×DL×DM)⊕(EAE×DM))):=b8 (λs=>qan_B1 n s.1.1 s.1.2 s.2.1.1 s.2.1.2.1 s.2.1.2.2.1 s.2.1.2.2.2.1 s.2.1.2.2.2.2 s.2.2) n s
def qan(n:Nat)(b:DH)(a:DI)(c:DJ)(d:DC)(e:DE):Option (DM×Int×Int×Int):=
 (qbh n b a c d e).bind λf=>
 bif(f !=0)then
 some (([]:List (List (Bool×List EAA))),(0,(0,f)))
 else
 (qbt n b a c d e).bind λi=>
 bif(!i)then
 some (([]:List (List (Bool×List EAA))),(0,(0,1)))
 else
 (qan_W1 n (((aF a),0),((b,(a,(c,(d,e)))),([]:List (List (Bool×List EAA)))))).bind λj=>
 Sum.rec (λg=>
 some (g.2.2.2.2.2.2,g.1)) (λk=>
 Sum.rec (λh=>
 some (h.2.2.2.2.2,h.1)) (λl=>
 some (l.2,(0,(0,0)))) k) j
def qah(n:Nat):Option Bool:=
 (qan n ([]:List (List EAA)) ((([]:List EAA),(1,(0,(([]:List EAA),((0,(0,0))::((26,(0,0))::([]:List EAC)))))))::([]:List ((List EAA)×Int×Int×(List EAA)×List EAC))) ([]:List ((List EAA)×Int×Int)) (7::([]:DD)) ([]:DF)).bind λa=>
 bif(a.2.2.2==0)then
 bif((aF a.1)==1)then
 (aV a.1 0).bind λb=>
 bif((aF b)==2)then
 (aV a.1 0).bind λc=>
 (aV c 1).bind λd=>
 bif d.1 then
 (aV a.1 0).bind λe=>
 (aV e 1).bind λf=>
 some ((aF f.2)==1)
 else
 some false
 else
 some false
 else
 some false
 else
 some false
def aG(n:Nat)(e j:Int):Option Bool:=
 bif((gF .i64 (dP e 3))==1)then
 bif((gF .i64 (dP e 3))==2)then
 (cQ n ((j,((gF .i64 (dP e 3)),0)),((1,0),(((((0,(0,0))::((5,(0,0))::([]:List EAC)))++((0,(0,0))::([]:List EAC)))++((5,(0,0))::([]:List EAC))),([]:List EAC))))).bind λa=>
 bif(Nat.ble (List.length (a.2.2.2++((0,(0,0))::((24,((aR .i64 (aR .i64 (aR .i64 (aF a.2.2.2) 2) (aF a.2.2.1)) 1),0))::([]:List EAC))))) 4294967296)then
 bif(Nat.ble (List.length ((a.2.2.2++((0,(0,0))::((24,((aR .i64 (aR .i64 (aR .i64 (aF a.2.2.2) 2) (aF a.2.2.1)) 1),0))::([]:List EAC))))++a.2.2.1)) 4294967296)then
 bif(Nat.ble (List.length (((a.2.2.2++((0,(0,0))::((24,((aR .i64 (aR .i64 (aR .i64 (aF a.2.2.2) 2) (aF a.2.2.1)) 1),0))::([]:List EAC))))++a.2.2.1)++((23,((aF a.2.2.2),0))::((26,(0,0))::([]:List EAC))))) 4294967296)then
 (qan n ([]:List (List EAA)) ((([]:List EAA),(a.2.1.1,(a.2.1.2,(([]:List EAA),(((a.2.2.2++((0,(0,0))::((24,((aR .i64 (aR .i64 (aR .i64 (aF a.2.2.2) 2) (aF a.2.2.1)) 1),0))::([]:List EAC))))++a.2.2.1)++((23,((aF a.2.2.2),0))::((26,(0,0))::([]:List EAC))))))))::([]:List ((List EAA)×Int×Int×(List EAA)×List EAC))) ([]:List ((List EAA)×Int×Int)) (1::([]:DD)) ([]:DF)).bind λf=>
 bif(decide (a.1.2>0))then
 (qah n).bind λk=>
 bif k then
 bif(f.2.2.2==4)then
 some ((aF f.1)==0)
 else
 some false
 else
 some false
 else
 (qah n).bind λl=>
 bif l then
 bif(f.2.2.2==0)then
 (aV f.1 0).bind λm=>
 (aV m (aR .i64 (aR .i64 (aR .i64 (aF a.2.2.2) 2) (aF a.2.2.1)) 1)).bind λo=>
 bif o.1 then
 (aV f.1 0).bind λp=>
 (aV p (aR .i64 (aR .i64 (aR .i64 (aF a.2.2.2) 2) (aF a.2.2.1)) 1)).bind λq=>
 some ((aF q.2)==(aR .i64 (gF .i64 (dP a.1.1 4)) 1))
 else
 some false
 else
 some false
 else
 some false
 else none
 else none
 else none
 else
 (cQ n ((j,((gF .i64 (dP e 3)),0)),((1,0),((((0,(0,0))::((5,(0,0))::([]:List EAC)))++((0,(0,0))::([]:List EAC))),([]:List EAC))))).bind λb=>
 bif(Nat.ble (List.length (b.2.2.2++((0,(0,0))::((24,((aR .i64 (aR .i64 (aR .i64 (aF b.2.2.2) 2) (aF b.2.2.1)) 1),0))::([]:List EAC))))) 4294967296)then
 bif(Nat.ble (List.length ((b.2.2.2++((0,(0,0))::((24,((aR .i64 (aR .i64 (aR .i64 (aF b.2.2.2) 2) (aF b.2.2.1)) 1),0))::([]:List EAC))))++b.2.2.1)) 4294967296)then
 bif(Nat.ble (List.length (((b.2.2.2++((0,(0,0))::((24,((aR .i64 (aR .i64 (aR .i64 (aF b.2.2.2) 2) (aF b.2.2.1)) 1),0))::([]:List EAC))))++b.2.2.1)++((23,((aF b.2.2.2),0))::((26,(0,0))::([]:List EAC))))) 4294967296)then
 (qan n ([]:List (List EAA)) ((([]:List EAA),(b.2.1.1,(b.2.1.2,(([]:List EAA),(((b.2.2.2++((0,(0,0))::((24,((aR .i64 (aR .i64 (aR .i64 (aF b.2.2.2) 2) (aF b.2.2.1)) 1),0))::([]:List EAC))))++b.2.2.1)++((23,((aF b.2.2.2),0))::((26,(0,0))::([]:List EAC))))))))::([]:List ((List EAA)×Int×Int×(List EAA)×List EAC))) ([]:List ((List EAA)×Int×Int)) (1::([]:DD)) ([]:DF)).bind λg=>
 bif(decide (b.1.2>0))then
 (qah n).bind λr=>
 bif r then
 bif(g.2.2.2==4)then
 some ((aF g.1)==0)
 else
 some false
 else
 some false
 else
 (qah n).bind λs=>
 bif s then
 bif(g.2.2.2==0)then
 (aV g.1 0).bind λt=>
 (aV t (aR .i64 (aR .i64 (aR .i64 (aF b.2.2.2) 2) (aF b.2.2.1)) 1)).bind λu=>
 bif u.1 then
 (aV g.1 0).bind λv=>
 (aV v (aR .i64 (aR .i64 (aR .i64 (aF b.2.2.2) 2) (aF b.2.2.1)) 1)).bind λw=>
 some ((aF w.2)==(aR .i64 (gF .i64 (dP b.1.1 4)) 1))
 else
 some false
 else
 some false
 else
 some false
 else none
 else none
 else none
 else
 bif((gF .i64 (dP e 3))==2)then
 (cQ n ((j,((gF .i64 (dP e 3)),0)),((1,0),((((0,(0,0))::((5,(0,0))::([]:List EAC)))++((5,(0,0))::([]:List EAC))),([]:List EAC))))).bind λc=>
 bif(Nat.ble (List.length (c.2.2.2++((0,(0,0))::((24,((aR .i64 (aR .i64 (aR .i64 (aF c.2.2.2) 2) (aF c.2.2.1)) 1),0))::([]:List EAC))))) 4294967296)then
 bif(Nat.ble (List.length ((c.2.2.2++((0,(0,0))::((24,((aR .i64 (aR .i64 (aR .i64 (aF c.2.2.2) 2) (aF c.2.2.1)) 1),0))::([]:List EAC))))++c.2.2.1)) 4294967296)then
 bif(Nat.ble (List.length (((c.2.2.2++((0,(0,0))::((24,((aR .i64 (aR .i64 (aR .i64 (aF c.2.2.2) 2) (aF c.2.2.1)) 1),0))::([]:List EAC))))++c.2.2.1)++((23,((aF c.2.2.2),0))::((26,(0,0))::([]:List EAC))))) 4294967296)then
 (qan n ([]:List (List EAA)) ((([]:List EAA),(c.2.1.1,(c.2.1.2,(([]:List EAA),(((c.2.2.2++((0,(0,0))::((24,((aR .i64 (aR .i64 (aR .i64 (aF c.2.2.2) 2) (aF c.2.2.1)) 1),0))::([]:List EAC))))++c.2.2.1)++((23,((aF c.2.2.2),0))::((26,(0,0))::([]:List EAC))))))))::([]:List ((List EAA)×Int×Int×(List EAA)×List EAC))) ([]:List ((List EAA)×Int×Int)) (1::([]:DD)) ([]:DF)).bind λh=>
 bif(decide (c.1.2>0))then
 (qah n).bind λx=>
 bif x then
 bif(h.2.2.2==4)then
 some ((aF h.1)==0)
 else
 some false
 else
 some false
 else
 (qah n).bind λy=>
 bif y then
 bif(h.2.2.2==0)then
 (aV h.1 0).bind λz=>
 (aV z (aR .i64 (aR .i64 (aR .i64 (aF c.2.2.2) 2) (aF c.2.2.1)) 1)).bind λaa=>
 bif aa.1 then
 (aV h.1 0).bind λab=>
 (aV ab (aR .i64 (aR .i64 (aR .i64 (aF c.2.2.2) 2) (aF c.2.2.1)) 1)).bind λac=>
 some ((aF ac.2)==(aR .i64 (gF .i64 (dP c.1.1 4)) 1))
 else
 some false
 else
 some false
 else
 some false
 else none
 else none
 else none
 else
 (cQ n ((j,((gF .i64 (dP e 3)),0)),((1,0),(((0,(0,0))::((5,(0,0))::([]:List EAC))),([]:List EAC))))).bind λd=>
 bif(Nat.ble (List.length (d.2.2.2++((0,(0,0))::((24,((aR .i64 (aR .i64 (aR .i64 (aF d.2.2.2) 2) (aF d.2.2.1)) 1),0))::([]:List EAC))))) 4294967296)then
 bif(Nat.ble (List.length ((d.2.2.2++((0,(0,0))::((24,((aR .i64 (aR .i64 (aR .i64 (aF d.2.2.2) 2) (aF d.2.2.1)) 1),0))::([]:List EAC))))++d.2.2.1)) 4294967296)then
 bif(Nat.ble (List.length (((d.2.2.2++((0,(0,0))::((24,((aR .i64 (aR .i64 (aR .i64 (aF d.2.2.2) 2) (aF d.2.2.1)) 1),0))::([]:List EAC))))++d.2.2.1)++((23,((aF d.2.2.2),0))::((26,(0,0))::([]:List EAC))))) 4294967296)then
 (qan n ([]:List (List EAA)) ((([]:List EAA),(d.2.1.1,(d.2.1.2,(([]:List EAA),(((d.2.2.2++((0,(0,0))::((24,((aR .i64 (aR .i64 (aR .i64 (aF d.2.2.2) 2) (aF d.2.2.1)) 1),0))::([]:List EAC))))++d.2.2.1)++((23,((aF d.2.2.2),0))::((26,(0,0))::([]:List EAC))))))))::([]:List ((List EAA)×Int×Int×(List EAA)×List EAC))) ([]:List ((List EAA)×Int×Int)) (1::([]:DD)) ([]:DF)).bind λi=>
 bif(decide (d.1.2>0))then
 (qah n).bind λad=>
 bif ad then
 bif(i.2.2.2==4)then
 some ((aF i.1)==0)
 else
 some false
 else
 some false
 else
 (qah n).bind λae=>
 bif ae then
 bif(i.2.2.2==0)then
 (aV i.1 0).bind λaf=>
 (aV af (aR .i64 (aR .i64 (aR .i64 (aF d.2.2.2) 2) (aF d.2.2.1)) 1)).bind λag=>
 bif ag.1 then
 (aV i.1 0).bind λah=>
 (aV ah (aR .i64 (aR .i64 (aR .i64 (aF d.2.2.2) 2) (aF d.2.2.1)) 1)).bind λai=>
 some ((aF ai.2)==(aR .i64 (gF .i64 (dP d.1.1 4)) 1))
 else
 some false
 else
 some false
 else
 some false
 else none
 else none
 else none
def qbu(n:Nat)(a b:Int):Option Bool:=
 bif(a==2)then
 some true
 else
 bif(a==3)then
 some true
 else
 bif(a==4)then
 some true
 else
 bif(a==6)then
 some true
 else
 some (a==7)
def qbr(n:Nat)(b c a d:Int):Option Bool:=
 bif((b==a)&&(c==d))then
 some true
 else
 bif(a==8)then
 some true
 else
 (qbu n b c).bind λe=>
 bif e then
 (qbu n a d).bind λf=>
 bif f then
 bif(b==6)then
 some true
 else
 some (a==7)
 else
 some false
 else
 some false
def qar(n:Nat)(a b c d:Int):Option EAA:=
 (qbr n a b c d).bind λe=>
 bif e then
 some (c,d)
 else
 (qbr n c d a b).bind λf=>
 bif f then
 some (a,b)
 else
 (qbu n a b).bind λg=>
 bif g then
 (qbu n c d).bind λh=>
 bif h then
 some (7,0)
 else
 some (8,0)
 else
 some (8,0)
def aC(n:Nat)(b c:Int):Option Bool:=
 (aV ((0,(0,0))::((1,(0,0))::((2,(0,0))::((28,(0,0))::((28,(1,0))::([]:List EAC)))))) (gF .i64 (dP b 5))).bind λi=>
 (aV ((0,(0,0))::((1,(0,0))::((2,(0,0))::((28,(0,0))::((28,(1,0))::([]:List EAC)))))) (gF .i64 (dP c 5))).bind λj=>
 (aV ((1,0)::((2,0)::((6,0)::((4,0)::((4,1)::([]:List EAA)))))) 0).bind λd=>
 (qan n (([]:List EAA)::(([]:List EAA)::([]:List (List EAA)))) ((([]:List EAA),(d.1,(d.2,(([]:List EAA),((0,(0,0))::((24,(4,0))::(i::((23,(5,0))::(j::((5,(0,0))::((0,(0,0))::((26,(0,0))::((8,(0,0))::([]:List EAC))))))))))))))::([]:List ((List EAA)×Int×Int×(List EAA)×List EAC))) ([]:List ((List EAA)×Int×Int)) (1::([]:DD)) ((ByteArray.mk (List.toArray []))::([]:DF))).bind λa=>
 (qah n).bind λk=>
 bif k then
 bif(a.2.2.2==0)then
 bif((aF a.1)==1)then
 (aV a.1 0).bind λl=>
 bif((aF l)==9)then
 (aV a.1 0).bind λm=>
 (aV m 5).bind λo=>
 bif((aF o.2)==1)then
 (aV a.1 0).bind λp=>
 (aV p 5).bind λq=>
 (aV q.2 0).bind λe=>
 (aV ((1,0)::((2,0)::((6,0)::((4,0)::((4,1)::([]:List EAA)))))) (gF .i64 (dP b 5))).bind λf=>
 (aV ((1,0)::((2,0)::((6,0)::((4,0)::((4,1)::([]:List EAA)))))) (gF .i64 (dP c 5))).bind λg=>
 (qar n f.1 f.2 g.1 g.2).bind λh=>
 bif((e.1==h.1)&&(e.2==h.2))then
 (aV a.1 0).bind λr=>
 (aV r 8).bind λs=>
 bif(!s.1)then
 (aV a.1 0).bind λt=>
 (aV t 8).bind λu=>
 some ((aF u.2)==0)
 else
 some false
 else
 some false
 else
 some false
 else
 some false
 else
 some false
 else
 some false
 else
 some false
end
end Sx
