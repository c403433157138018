import Derived.Test.YtjjjbgicidhpfaaDoorLib7
import Derived.KernelRfl
open Go Go.Ab
set_option linter.unusedVariables false
set_option maxRecDepth 20000
namespace Sx
noncomputable section
abbrev EAA:=Int×Int
abbrev DA:=List EAA
abbrev DI:=List DA
abbrev EAJ:=Int×Int×Int
abbrev DB:=List EAJ
abbrev EAF:=DA×Int×Int×DA×DB
abbrev DJ:=List EAF
abbrev EAO:=DA×Int×Int
abbrev DK:=List EAO
abbrev DC:=List Int
abbrev DD:=List ByteArray
abbrev EAB:=DI×DJ×DK×DC×DD×Int×Nat×Nat
abbrev EAC:=DI×DJ×DK×DC×DD
abbrev EAD:=Int×Int×Int×Int×Int×Int
abbrev EAE:=DI×DJ×DK×DC×DD×Int
abbrev EAG:=DI×Int×Int
abbrev EAH:=Int×DI×DJ×DK×DC×DD
abbrev EAI:=Nat×Nat
abbrev DF:=List EAD
abbrev DN:=List DF
abbrev EAK:=DN×Nat
abbrev EAL:=Int×Nat×Bool×DA×Int×Int
abbrev EAM:=DJ×Int×Int
abbrev EAN:=Int⊕Unit
abbrev EAP:=Bool×Int
abbrev EAQ:=DA×DC×Int
abbrev DM:=List (Bool×DA)
abbrev DO:=List DM
abbrev EAR:=DO×DJ×Int×Int
abbrev EAS:=DK×Int×Int
abbrev EAT:=EAA×EAB×DM×DC
abbrev EAU:=Int×EAC×DA×Int×Int×DA×DB
abbrev EAV:=Bool×EAK×EAK×DF×DF
abbrev EAW:=EAI×DI×Int×Int
abbrev EAX:=EAA×DI×DJ×DK×DC×DD
abbrev EAY:=Bool×EAB×DM×DC
abbrev EAZ:=EAB×DM×DC
abbrev EBA:=EAA⊕Int
abbrev EBB:=EAI×DA
abbrev EBC:=EAA×EAE×DM
abbrev DE:=List Int
abbrev DG:=List ByteArray
abbrev DH:=List (Nat×Int×Int)
abbrev DL:=List DC
def qas_B0(n:Nat)(c b:Int)(a:DI)(d:DJ)(e:DK)(f:DC)(g:DD):Option (EAX⊕EAH):=
 bif(decide (b<(aC a)))then
 (aM a b).bind λh=>
 some (Sum.inl (((aX .i64 c (aC h)),(aX .i64 b 1)),(a,(d,(e,(f,g))))))
 else
 some (Sum.inr (c,(a,(d,(e,(f,g))))))
def qas_W0(n:Nat)(s:EAA×DI×DJ×DK×DC×DD):Option EAH:=aY (λs=>qas_B0 n s.1.1 s.1.2 s.2.1 s.2.2.1 s.2.2.2.1 s.2.2.2.2.1 s.2.2.2.2.2) n s
def qas_B2(n:Nat)(c b:Int)(d:DI)(a:DJ)(e:DK)(f:DC)(g:DD):Option (EAX⊕EAH):=
 bif(decide (b<(aC a)))then
 (aM a b).bind λh=>
 (aM a b).bind λi=>
 (aM a b).bind λj=>
 some (Sum.inl (((aX .i64 (aX .i64 (aX .i64 c (aC h.1)) (aC i.2.2.2.1)) (aC j.2.2.2.2)),(aX .i64 b 1)),(d,(a,(e,(f,g))))))
 else
 some (Sum.inr (c,(d,(a,(e,(f,g))))))
def qas_W2(n:Nat)(s:EAA×DI×DJ×DK×DC×DD):Option EAH:=aY (λs=>qas_B2 n s.1.1 s.1.2 s.2.1 s.2.2.1 s.2.2.2.1 s.2.2.2.2.1 s.2.2.2.2.2) n s
def qas_B4(n:Nat)(c b:Int)(d:DI)(e:DJ)(a:DK)(f:DC)(g:DD):Option (EAX⊕EAH):=
 bif(decide (b<(aC a)))then
 (aM a b).bind λh=>
 some (Sum.inl (((aX .i64 c (aC h.1)),(aX .i64 b 1)),(d,(e,(a,(f,g))))))
 else
 some (Sum.inr (c,(d,(e,(a,(f,g))))))
def qas_W4(n:Nat)(s:EAA×DI×DJ×DK×DC×DD):Option EAH:=aY (λs=>qas_B4 n s.1.1 s.1.2 s.2.1 s.2.2.1 s.2.2.2.1 s.2.2.2.2.1 s.2.2.2.2.2) n s
def qas_B6(n:Nat)(c b:Int)(d:DI)(e:DJ)(f:DK)(g:DC)(a:DD):Option (EAX⊕EAH):=
 bif(decide (b<(aC a)))then
 (aM a b).bind λh=>
 some (Sum.inl (((aX .i64 c (K5 h)),(aX .i64 b 1)),(d,(e,(f,(g,a))))))
 else
 some (Sum.inr (c,(d,(e,(f,(g,a))))))
def qas_W6(n:Nat)(s:EAA×DI×DJ×DK×DC×DD):Option EAH:=aY (λs=>qas_B6 n s.1.1 s.1.2 s.2.1 s.2.2.1 s.2.2.2.1 s.2.2.2.2.1 s.2.2.2.2.2) n s
def qas(n:Nat)(a:DI)(b:DJ)(c:DK)(d:DC)(e:DD):Option Bool:=
 bif(decide ((aX .i64 (aX .i64 (aX .i64 (aX .i64 (aC a) (aC b)) (aC c)) (aC d)) (aC e))>200))then
 some false
 else
 (qas_W0 n (((aX .i64 (aX .i64 (aX .i64 (aX .i64 (aC a) (aC b)) (aC c)) (aC d)) (aC e)),0),(a,(b,(c,(d,e)))))).bind λf=>
 (qas_W2 n ((f.1,0),f.2)).bind λg=>
 (qas_W4 n ((g.1,0),g.2)).bind λh=>
 (qas_W6 n ((h.1,0),h.2)).bind λi=>
 some (decide (i.1<3000))
def qbl(n:Nat)(b a c:Int):Option Bool:=
 bif(b==1)then
 some (a==0)
 else
 bif(b==2)then
 some (a==0)
 else
 bif(b==3)then
 some (a==0)
 else
 bif(b==7)then
 some (a==0)
 else
 bif(b==4)then
 bif(decide (a≥0))then
 some (decide (a<c))
 else
 some false
 else
 bif(b==5)then
 bif(decide (a≥0))then
 some (decide (a<4))
 else
 some false
 else
 some false
def qan(n:Nat)(b c a:Int):Option EAP:=
 (qbl n b c a).bind λd=>
 some ((!d),a)
def qab_B0(n:Nat)(c:DA)(d a e:Int):Option ((EAO×Int)⊕EBA):=
 bif(decide (a<d))then
 (aM c a).bind λf=>
 (qan n f.1 f.2 e).bind λb=>
 bif b.1 then
 some (Sum.inr (Sum.inl (a,b.2)))
 else
 some (Sum.inl ((c,(d,(aX .i64 a 1))),b.2))
 else
 some (Sum.inr (Sum.inr e))
def qab_W0(n:Nat)(s:EAO×Int):Option EBA:=aY (λs=>qab_B0 n s.1.1 s.1.2.1 s.1.2.2 s.2) n s
def qab(n:Nat)(a:DA)(b:Int):Option EAA:=
 (qab_W0 n ((a,((aC a),0)),b)).bind λc=>
 Sum.rec (λd=>
 some d) (λe=>
 some ((-1),e)) c
def qs(n:Nat)(b:DA)(c:Int):Option EAP:=
 (qab n b c).bind λa=>
 some ((decide (a.1≥0)),a.2)
def qay(n:Nat)(a:DA)(b c:Int):Option Bool:=
 bif(decide ((aC a)≤c))then
 (qs n a b).bind λd=>
 some (!d.1)
 else
 some false
def qaq(n:Nat)(b:DA)(a:Int):Option EAP:=
 (qay n b a 6).bind λc=>
 some ((!c),a)
def qw_B0(n:Nat)(c:DI)(d a e:Int):Option ((EAG×Int)⊕EBA):=
 bif(decide (a<d))then
 (aM c a).bind λf=>
 (qaq n f e).bind λb=>
 bif b.1 then
 some (Sum.inr (Sum.inl (a,b.2)))
 else
 some (Sum.inl ((c,(d,(aX .i64 a 1))),b.2))
 else
 some (Sum.inr (Sum.inr e))
def qw_W0(n:Nat)(s:EAG×Int):Option EBA:=aY (λs=>qw_B0 n s.1.1 s.1.2.1 s.1.2.2 s.2) n s
def qw(n:Nat)(a:DI)(b:Int):Option EAA:=
 (qw_W0 n ((a,((aC a),0)),b)).bind λc=>
 Sum.rec (λd=>
 some d) (λe=>
 some ((-1),e)) c
def qg(n:Nat)(b:DI)(c:Int):Option EAP:=
 (qw n b c).bind λa=>
 some ((decide (a.1≥0)),a.2)
def qbp(n:Nat)(a:Int):Option Int:=
 bif(a==29)then
 some 2
 else
 bif(a==30)then
 some 2
 else
 bif(a==0)then
 some 1
 else
 bif(a==1)then
 some 1
 else
 bif(a==3)then
 some 1
 else
 bif(a==4)then
 some 1
 else
 bif(a==23)then
 some 1
 else
 bif(a==24)then
 some 1
 else
 bif(a==25)then
 some 1
 else
 bif(a==27)then
 some 1
 else
 bif(a==28)then
 some 1
 else
 bif(decide (a<0))then
 some (-1)
 else
 bif(decide (a≥42))then
 some (-1)
 else
 some 0
def qby(n:Nat)(a:Int)(b:Bool):Option Bool:=
 bif(decide (a≥0))then
 bif(decide (a≤255))then
 bif b then
 some true
 else
 some (a==0)
 else
 some false
 else
 some false
def qcc_B0(n:Nat)(a:Int)(b:DC):Option ((Int×DC)⊕(Int×DC)):=
 bif(decide (a≥128))then
 bif(Nat.ble (List.length (b++((UM .u8 (jT .u8 a) 128)::([]:DE)))) 4294967296)then
 some (Sum.inl ((Qk .u64 a 7),(b++((UM .u8 (jT .u8 a) 128)::([]:DE)))))
 else none
 else
 some (Sum.inr (a,b))
def qcc_W0(n:Nat)(s:Int×DC):Option (Int×DC):=aY (λs=>qcc_B0 n s.1 s.2) n s
def qcc(n:Nat)(b:Int):Option DC:=
 (qcc_W0 n (b,([]:DE))).bind λa=>
 bif(Nat.ble (List.length (a.2++((jT .u8 a.1)::([]:DE)))) 4294967296)then
 some (a.2++((jT .u8 a.1)::([]:DE)))
 else none
def qca_B0(n:Nat)(b:Nat×Nat)(f a:Int)(c:DC)(d e:Int):Option (((EAI×Int×Int)×DC×Int×Int)⊕(DC×Int×Int)):=
 bif(decide (a<f))then
 bif((decide (0≤a))&&(decide (a<((b.2:Nat):Int))))then
 bif(Nat.beq (((b.1+(Int.toNat a))*1)+0) 0)then
 (qcc n (jT .u64 d)).bind λg=>
 bif(Nat.ble (List.length (c++g)) 4294967296)then
 some (Sum.inl ((b,(f,(aX .i64 a 1))),((c++g),(d,e))))
 else none
 else
 bif(Nat.beq (((b.1+(Int.toNat a))*1)+0) 1)then
 (qcc n (jT .u64 e)).bind λh=>
 bif(Nat.ble (List.length (c++h)) 4294967296)then
 some (Sum.inl ((b,(f,(aX .i64 a 1))),((c++h),(d,e))))
 else none
 else none
 else none
 else
 some (Sum.inr (c,(d,e)))
def qca_W0(n:Nat)(s:(EAI×Int×Int)×DC×Int×Int):Option (DC×Int×Int):=aY (λs=>qca_B0 n s.1.1 s.1.2.1 s.1.2.2 s.2.1 s.2.2.1 s.2.2.2) n s
def qca(n:Nat)(b c d:Int):Option DC:=
 (qbp n b).bind λa=>
 bif(decide (a<0))then
 some ([]:DE)
 else
 (qby n c (decide (a>0))).bind λe=>
 bif(!e)then
 some ([]:DE)
 else
 (qby n d (decide (a>1))).bind λf=>
 bif(!f)then
 some ([]:DE)
 else
 bif((decide (0≤a))&&(decide (a≤2)))then
 (qca_W0 n (((0,((Int.toNat a)-0)),(((((Int.toNat a)-0):Nat):Int),0)),(((jT .u8 b)::([]:DE)),(c,d)))).bind λg=>
 some g.1
 else none
def qaa(n:Nat)(a b c:Int):Option Bool:=
 (qca n a b c).bind λd=>
 some ((aC d)==0)
def qz_B0(n:Nat)(c:DB)(d a:Int):Option ((DB×Int×Int)⊕EAN):=
 bif(decide (a<d))then
 (aM c a).bind λb=>
 (qaa n b.1 b.2.1 b.2.2).bind λe=>
 bif e then
 some (Sum.inr (Sum.inl a))
 else
 some (Sum.inl (c,(d,(aX .i64 a 1))))
 else
 some (Sum.inr (Sum.inr ()))
def qz_W0(n:Nat)(s:DB×Int×Int):Option EAN:=aY (λs=>qz_B0 n s.1 s.2.1 s.2.2) n s
def qz(n:Nat)(a:DB):Option Int:=
 (qz_W0 n (a,((aC a),0))).bind λb=>
 Sum.rec (λc=>
 some c) (λd=>
 some (-1)) b
def ql(n:Nat)(a:DB):Option Bool:=
 (qz n a).bind λb=>
 some (decide (b≥0))
def qag(n:Nat)(c:DA)(d e:Int)(f:DA)(a:DB)(b:Int):Option Bool:=
 (qay n c b 4).bind λg=>
 bif g then
 (qbl n d e b).bind λh=>
 bif h then
 (qay n f b (bO .i64 8 (aC c))).bind λi=>
 bif i then
 bif(decide ((aC a)≥1))then
 bif(decide ((aC a)≤64))then
 (ql n a).bind λj=>
 some (!j)
 else
 some false
 else
 some false
 else
 some false
 else
 some false
 else
 some false
def qao(n:Nat)(b:DA)(c d:Int)(e:DA)(f:DB)(a:Int):Option EAP:=
 (qag n b c d e f a).bind λg=>
 some ((!g),a)
def qaf_B0(n:Nat)(d:DJ)(e b f:Int):Option ((EAM×Int)⊕EBA):=
 bif(decide (b<e))then
 (aM d b).bind λa=>
 (qao n a.1 a.2.1 a.2.2.1 a.2.2.2.1 a.2.2.2.2 f).bind λc=>
 bif c.1 then
 some (Sum.inr (Sum.inl (b,c.2)))
 else
 some (Sum.inl ((d,(e,(aX .i64 b 1))),c.2))
 else
 some (Sum.inr (Sum.inr f))
def qaf_W0(n:Nat)(s:EAM×Int):Option EBA:=aY (λs=>qaf_B0 n s.1.1 s.1.2.1 s.1.2.2 s.2) n s
def qaf(n:Nat)(a:DJ)(b:Int):Option EAA:=
 (qaf_W0 n ((a,((aC a),0)),b)).bind λc=>
 Sum.rec (λd=>
 some d) (λe=>
 some ((-1),e)) c
def qr(n:Nat)(b:DJ)(c:Int):Option EAP:=
 (qaf n b c).bind λa=>
 some ((decide (a.1≥0)),a.2)
def qap(n:Nat)(b:DA)(c d a:Int):Option EAP:=
 (qay n b a 4).bind λe=>
 bif(!e)then
 some (true,a)
 else
 (qbl n c d a).bind λf=>
 some ((!f),a)
def qv_B0(n:Nat)(d:DK)(e a f:Int):Option ((EAS×Int)⊕EBA):=
 bif(decide (a<e))then
 (aM d a).bind λb=>
 (qap n b.1 b.2.1 b.2.2 f).bind λc=>
 bif c.1 then
 some (Sum.inr (Sum.inl (a,c.2)))
 else
 some (Sum.inl ((d,(e,(aX .i64 a 1))),c.2))
 else
 some (Sum.inr (Sum.inr f))
def qv_W0(n:Nat)(s:EAS×Int):Option EBA:=aY (λs=>qv_B0 n s.1.1 s.1.2.1 s.1.2.2 s.2) n s
def qv(n:Nat)(a:DK)(b:Int):Option EAA:=
 (qv_W0 n ((a,((aC a),0)),b)).bind λc=>
 Sum.rec (λd=>
 some d) (λe=>
 some ((-1),e)) c
def qj(n:Nat)(b:DK)(c:Int):Option EAP:=
 (qv n b c).bind λa=>
 some ((decide (a.1≥0)),a.2)
def qaj(n:Nat)(a:ByteArray):Option Bool:=
 some (decide ((K5 a)>32))
def qu_B0(n:Nat)(b:DD)(c a:Int):Option ((DD×Int×Int)⊕EAN):=
 bif(decide (a<c))then
 (aM b a).bind λd=>
 (qaj n d).bind λe=>
 bif e then
 some (Sum.inr (Sum.inl a))
 else
 some (Sum.inl (b,(c,(aX .i64 a 1))))
 else
 some (Sum.inr (Sum.inr ()))
def qu_W0(n:Nat)(s:DD×Int×Int):Option EAN:=aY (λs=>qu_B0 n s.1 s.2.1 s.2.2) n s
def qu(n:Nat)(a:DD):Option Int:=
 (qu_W0 n (a,((aC a),0))).bind λb=>
 Sum.rec (λc=>
 some c) (λd=>
 some (-1)) b
def qh(n:Nat)(a:DD):Option Bool:=
 (qu n a).bind λb=>
 some (decide (b≥0))
def qba(n:Nat)(a:DI)(b:DJ)(c:DK)(g:DC)(d:DD):Option Bool:=
 bif(decide ((aC a)≤8))then
 (qg n a (aC a)).bind λe=>
 bif(!e.1)then
 bif(decide ((aC b)≥1))then
 bif(decide ((aC b)≤8))then
 (qr n b e.2).bind λf=>
 bif(!f.1)then
 bif(decide ((aC c)≤8))then
 (qj n c f.2).bind λh=>
 bif(!h.1)then
 bif(decide ((aC g)≤16))then
 bif(decide ((aC d)≤16))then
 (qh n d).bind λi=>
 some (!i)
 else
 some false
 else
 some false
 else
 some false
 else
 some false
 else
 some false
 else
 some false
 else
 some false
 else
 some false
 else
 some false
def qm(n:Nat)(b:Int):Option DC:=
 (qcc n (jT .u64 b)).bind λa=>
 bif(Nat.ble (List.length a) 4294967296)then
 some a
 else none
def qd(n:Nat)(c:Int)(a:DC):Option DC:=
 (qcc n (jT .u64 c)).bind λb=>
 bif(Nat.ble (List.length (a++b)) 4294967296)then
 some (a++b)
 else none
def qbx(n:Nat)(c d:Int):Option DC:=
 (qcc n (jT .u64 (L6 c 0))).bind λa=>
 (qcc n (jT .u64 (L6 d 0))).bind λb=>
 bif(Nat.ble (List.length (a++b)) 4294967296)then
 some (a++b)
 else none
def qo_B0(n:Nat)(c:DA)(d a:Int)(b:DC):Option ((EAO×DC)⊕DC):=
 bif(decide (a<d))then
 (aM c a).bind λe=>
 (qbx n e.1 e.2).bind λf=>
 bif(Nat.ble (List.length (b++f)) 4294967296)then
 some (Sum.inl ((c,(d,(aX .i64 a 1))),(b++f)))
 else none
 else
 some (Sum.inr b)
def qo_W0(n:Nat)(s:EAO×DC):Option DC:=aY (λs=>qo_B0 n s.1.1 s.1.2.1 s.1.2.2 s.2) n s
def qo(n:Nat)(a:DA)(b:DC):Option DC:=
 (qd n (aC a) b).bind λc=>
 (qo_W0 n ((a,((aC a),0)),c)).bind λd=>
 some d
def qae_B0(n:Nat)(b:DI)(c a:Int)(d:DC):Option ((EAG×DC)⊕DC):=
 bif(decide (a<c))then
 (aM b a).bind λe=>
 (qo n e d).bind λf=>
 some (Sum.inl ((b,(c,(aX .i64 a 1))),f))
 else
 some (Sum.inr d)
def qae_W0(n:Nat)(s:EAG×DC):Option DC:=aY (λs=>qae_B0 n s.1.1 s.1.2.1 s.1.2.2 s.2) n s
def qae(n:Nat)(a:DI)(d:DJ)(e:DK)(f:DC)(g:DD):Option DC:=
 (qm n (aC a)).bind λb=>
 (qae_W0 n ((a,((aC a),0)),b)).bind λc=>
 some c
def qt_B2(n:Nat)(d:DJ)(e f:Int)(g:DB)(h a:Int)(b:DC):Option (((DJ×Int×Int×DB×Int×Int)×DC)⊕(EAM×DC)):=
 bif(decide (a<h))then
 (aM g a).bind λc=>
 (qca n c.1 c.2.1 c.2.2).bind λi=>
 bif(Nat.ble (List.length (b++i)) 4294967296)then
 some (Sum.inl ((d,(e,(f,(g,(h,(aX .i64 a 1)))))),(b++i)))
 else none
 else
 some (Sum.inr ((d,(e,f)),b))
def qt_W2(n:Nat)(s:(DJ×Int×Int×DB×Int×Int)×DC):Option (EAM×DC):=aY (λs=>qt_B2 n s.1.1 s.1.2.1 s.1.2.2.1 s.1.2.2.2.1 s.1.2.2.2.2.1 s.1.2.2.2.2.2 s.2) n s
def qt_B0(n:Nat)(d:DJ)(e c:Int)(f:DC):Option ((EAM×DC)⊕DC):=
 bif(decide (c<e))then
 (aM d c).bind λa=>
 (qo n a.1 f).bind λg=>
 (qbx n a.2.1 a.2.2.1).bind λh=>
 bif(Nat.ble (List.length (g++h)) 4294967296)then
 (qo n a.2.2.2.1 (g++h)).bind λi=>
 (qd n (aC a.2.2.2.2) i).bind λj=>
 (qt_W2 n ((d,(e,(c,(a.2.2.2.2,((aC a.2.2.2.2),0))))),j)).bind λb=>
 some (Sum.inl ((b.1.1,(b.1.2.1,(aX .i64 b.1.2.2 1))),b.2))
 else none
 else
 some (Sum.inr f)
def qt_W0(n:Nat)(s:EAM×DC):Option DC:=aY (λs=>qt_B0 n s.1.1 s.1.2.1 s.1.2.2 s.2) n s
def qt(n:Nat)(d:DI)(a:DJ)(e:DK)(f:DC)(g:DD):Option DC:=
 (qm n (aC a)).bind λb=>
 (qt_W0 n ((a,((aC a),0)),b)).bind λc=>
 some c
def qad_B0(n:Nat)(c:DK)(d a:Int)(e:DC):Option ((EAS×DC)⊕DC):=
 bif(decide (a<d))then
 (aM c a).bind λb=>
 (qo n b.1 e).bind λf=>
 (qbx n b.2.1 b.2.2).bind λg=>
 bif(Nat.ble (List.length (f++g)) 4294967296)then
 some (Sum.inl ((c,(d,(aX .i64 a 1))),(f++g)))
 else none
 else
 some (Sum.inr e)
def qad_W0(n:Nat)(s:EAS×DC):Option DC:=aY (λs=>qad_B0 n s.1.1 s.1.2.1 s.1.2.2 s.2) n s
def qad(n:Nat)(d:DI)(e:DJ)(a:DK)(f:DC)(g:DD):Option DC:=
 (qm n (aC a)).bind λb=>
 (qad_W0 n ((a,((aC a),0)),b)).bind λc=>
 some c
def qbw_B0(n:Nat)(b d a:Int)(c:DC):Option ((EAJ×DC)⊕DC):=
 bif(decide (a<d))then
 bif(decide (0≤(QU .i64 8 a)))then
 bif(Nat.ble (List.length (c++((jT .u8 (Qk .u64 b (QU .i64 8 a)))::([]:DE)))) 4294967296)then
 some (Sum.inl ((b,(d,(aX .i64 a 1))),(c++((jT .u8 (Qk .u64 b (QU .i64 8 a)))::([]:DE)))))
 else none
 else none
 else
 some (Sum.inr c)
def qbw_W0(n:Nat)(s:EAJ×DC):Option DC:=aY (λs=>qbw_B0 n s.1.1 s.1.2.1 s.1.2.2 s.2) n s
def qbw(n:Nat)(a b:Int):Option DC:=
 (qbw_W0 n ((a,((TH (L6 b 0) 8),0)),([]:DE))).bind λc=>
 some c
def qac_B0(n:Nat)(c:DC)(d a:Int)(b:DC):Option (((DC×Int×Int)×DC)⊕DC):=
 bif(decide (a<d))then
 (aM c a).bind λf=>
 (qbw n f 8).bind λe=>
 bif(Nat.ble (List.length (b++e)) 4294967296)then
 some (Sum.inl ((c,(d,(aX .i64 a 1))),(b++e)))
 else none
 else
 some (Sum.inr b)
def qac_W0(n:Nat)(s:(DC×Int×Int)×DC):Option DC:=aY (λs=>qac_B0 n s.1.1 s.1.2.1 s.1.2.2 s.2) n s
def qac(n:Nat)(d:DI)(e:DJ)(f:DK)(a:DC)(g:DD):Option DC:=
 (qm n (aC a)).bind λb=>
 (qac_W0 n ((a,((aC a),0)),b)).bind λc=>
 some c
def qal_B0(n:Nat)(c:DD)(d a:Int)(e:DC):Option (((DD×Int×Int)×DC)⊕DC):=
 bif(decide (a<d))then
 (aM c a).bind λb=>
 (qd n (K5 b) e).bind λf=>
 bif(Nat.ble (List.length (f++(dZ b))) 4294967296)then
 some (Sum.inl ((c,(d,(aX .i64 a 1))),(f++(dZ b))))
 else none
 else
 some (Sum.inr e)
def qal_W0(n:Nat)(s:(DD×Int×Int)×DC):Option DC:=aY (λs=>qal_B0 n s.1.1 s.1.2.1 s.1.2.2 s.2) n s
def qal(n:Nat)(d:DI)(e:DJ)(f:DK)(g:DC)(a:DD):Option DC:=
 (qm n (aC a)).bind λb=>
 (qal_W0 n ((a,((aC a),0)),b)).bind λc=>
 some c
def qbq_B0(n:Nat)(e:DL)(f b:Int)(a:DC):Option (((DL×Int×Int)×DC)⊕DC):=
 bif(decide (b<f))then
 (aM e b).bind λc=>
 (qcc n (jT .u64 (aC c))).bind λd=>
 bif(Nat.ble (List.length (a++d)) 4294967296)then
 bif(Nat.ble (List.length ((a++d)++c)) 4294967296)then
 some (Sum.inl ((e,(f,(aX .i64 b 1))),((a++d)++c)))
 else none
 else none
 else
 some (Sum.inr a)
def qbq_W0(n:Nat)(s:(DL×Int×Int)×DC):Option DC:=aY (λs=>qbq_B0 n s.1.1 s.1.2.1 s.1.2.2 s.2) n s
def qbq(n:Nat)(a:DL):Option DC:=
 (qcc n (jT .u64 (aC a))).bind λb=>
 (qbq_W0 n ((a,((aC a),0)),b)).bind λc=>
 some c
def qah(n:Nat)(a:DI)(b:DJ)(c:DK)(d:DC)(e:DD):Option (DC×Int):=
 (qba n a b c d e).bind λf=>
 bif(!f)then
 some (([]:DE),2)
 else
 (qae n a b c d e).bind λg=>
 (qt n a b c d e).bind λh=>
 (qad n a b c d e).bind λi=>
 (qac n a b c d e).bind λj=>
 (qal n a b c d e).bind λk=>
 (qbq n (g::(h::(i::(j::(k::([]:DL))))))).bind λl=>
 some (l,0)
def qbd(n:Nat)(a b:Int):Option Bool:=
 some (decide (a<b))
def qbj(n:Nat)(c:DI)(h:DJ)(i:DK)(j:DC)(k:DD)(d:DA)(ab ac:Int)(e:DA)(f:DB)(b a g:Int):Option Bool:=
 bif(b==0)then
 (qbd n a (aC j)).bind λl=>
 some l
 else
 bif(b==1)then
 (qbd n a (aC k)).bind λm=>
 some m
 else
 bif(b==3)then
 (qbd n a (aX .i64 (aC d) (aC e))).bind λo=>
 some o
 else
 bif(b==4)then
 (qbd n a (aX .i64 (aC d) (aC e))).bind λp=>
 some p
 else
 bif(b==23)then
 (qbd n a (aC f)).bind λq=>
 some q
 else
 bif(b==24)then
 (qbd n a (aC f)).bind λr=>
 some r
 else
 bif(b==25)then
 (qbd n a (aC h)).bind λs=>
 some s
 else
 bif(b==27)then
 (qbd n a (aC i)).bind λt=>
 some t
 else
 bif(b==28)then
 (qbd n a (aC c)).bind λu=>
 some u
 else
 bif(b==29)then
 (qbd n a (aC c)).bind λv=>
 bif v then
 (aM c a).bind λw=>
 (qbd n g (aC w)).bind λx=>
 some x
 else
 some false
 else
 bif(b==30)then
 (qbd n a (aC c)).bind λy=>
 bif y then
 (aM c a).bind λz=>
 (qbd n g (aC z)).bind λaa=>
 some aa
 else
 some false
 else
 some true
def qaz(n:Nat)(k l m:Int)(a:DI)(b:DJ)(c:DK)(d:DC)(e:DD)(f:DA)(g h:Int)(i:DA)(j:DB):Option (Bool×EAC×DA×Int×Int×DA×DB):=
 (qbj n a b c d e f g h i j k l m).bind λo=>
 some ((!o),((a,(b,(c,(d,e)))),(f,(g,(h,(i,j))))))
def qq_B0(n:Nat)(d:DB)(e a:Int)(f:DI)(g:DJ)(h:DK)(i:DC)(j:DD)(k:DA)(l m:Int)(o:DA)(p:DB):Option (((DB×Int×Int)×EAC×DA×Int×Int×DA×DB)⊕(EAU⊕(EAC×DA×Int×Int×DA×DB))):=
 bif(decide (a<e))then
 (aM d a).bind λb=>
 (qaz n b.1 b.2.1 b.2.2 f g h i j k l m o p).bind λc=>
 bif c.1 then
 some (Sum.inr (Sum.inl (a,c.2)))
 else
 some (Sum.inl ((d,(e,(aX .i64 a 1))),c.2))
 else
 some (Sum.inr (Sum.inr ((f,(g,(h,(i,j)))),(k,(l,(m,(o,p)))))))
def qq_W0(n:Nat)(s:(DB×Int×Int)×EAC×DA×Int×Int×DA×DB):Option (EAU⊕(EAC×DA×Int×Int×DA×DB)):=aY (λs=>qq_B0 n s.1.1 s.1.2.1 s.1.2.2 s.2.1.1 s.2.1.2.1 s.2.1.2.2.1 s.2.1.2.2.2.1 s.2.1.2.2.2.2 s.2.2.1 s.2.2.2.1 s.2.2.2.2.1 s.2.2.2.2.2.1 s.2.2.2.2.2.2) n s
def qq(n:Nat)(a:DB)(b:DI)(c:DJ)(d:DK)(e:DC)(f:DD)(g:DA)(h i:Int)(j:DA)(k:DB):Option EAU:=
 (qq_W0 n ((a,((aC a),0)),((b,(c,(d,(e,f)))),(g,(h,(i,(j,k))))))).bind λl=>
 Sum.rec (λm=>
 some m) (λo=>
 some ((-1),o)) l
def qe(n:Nat)(b:DB)(c:DI)(d:DJ)(e:DK)(f:DC)(g:DD)(h:DA)(i j:Int)(k:DA)(l:DB):Option (Bool×EAC×DA×Int×Int×DA×DB):=
 (qq n b c d e f g h i j k l).bind λa=>
 some ((decide (a.1≥0)),a.2)
def qau(n:Nat)(a b:Int):Option Bool:=
 some (a==5)
def qy_B0(n:Nat)(b:DA)(c a:Int):Option (EAO⊕EAN):=
 bif(decide (a<c))then
 (aM b a).bind λd=>
 (qau n d.1 d.2).bind λe=>
 bif e then
 some (Sum.inr (Sum.inl a))
 else
 some (Sum.inl (b,(c,(aX .i64 a 1))))
 else
 some (Sum.inr (Sum.inr ()))
def qy_W0(n:Nat)(s:DA×Int×Int):Option EAN:=aY (λs=>qy_B0 n s.1 s.2.1 s.2.2) n s
def qy(n:Nat)(a:DA):Option Int:=
 (qy_W0 n (a,((aC a),0))).bind λb=>
 Sum.rec (λc=>
 some c) (λd=>
 some (-1)) b
def qi(n:Nat)(a:DA):Option Bool:=
 (qy n a).bind λb=>
 some (decide (b≥0))
def qbh_B0(n:Nat)(d:DJ)(e c:Int)(f:DI)(g:DJ)(h:DK)(i:DC)(j:DD):Option ((EAM×DI×DJ×DK×DC×DD)⊕(EAU⊕EAC)):=
 bif(decide (c<e))then
 (aM d c).bind λa=>
 (qe n a.2.2.2.2 f g h i j a.1 a.2.1 a.2.2.1 a.2.2.2.1 a.2.2.2.2).bind λb=>
 bif b.1 then
 some (Sum.inr (Sum.inl (1,b.2)))
 else
 (qi n b.2.2.2.2.2.1).bind λk=>
 bif k then
 some (Sum.inr (Sum.inl (1,b.2)))
 else
 some (Sum.inl ((d,(e,(aX .i64 c 1))),b.2.1))
 else
 some (Sum.inr (Sum.inr (f,(g,(h,(i,j))))))
def qbh_W0(n:Nat)(s:EAM×DI×DJ×DK×DC×DD):Option (EAU⊕EAC):=aY (λs=>qbh_B0 n s.1.1 s.1.2.1 s.1.2.2 s.2.1 s.2.2.1 s.2.2.2.1 s.2.2.2.2.1 s.2.2.2.2.2) n s
def qbn(n:Nat)(a b:Int):Option Bool:=
 bif(a==1)then
 some true
 else
 some (a==5)
def qak(n:Nat)(a b:Int):Option Bool:=
 (qbn n a b).bind λc=>
 some (!c)
def qx_B0(n:Nat)(b:DA)(c a:Int):Option (EAO⊕EAN):=
 bif(decide (a<c))then
 (aM b a).bind λd=>
 (qak n d.1 d.2).bind λe=>
 bif e then
 some (Sum.inr (Sum.inl a))
 else
 some (Sum.inl (b,(c,(aX .i64 a 1))))
 else
 some (Sum.inr (Sum.inr ()))
def qx_W0(n:Nat)(s:DA×Int×Int):Option EAN:=aY (λs=>qx_B0 n s.1 s.2.1 s.2.2) n s
def qx(n:Nat)(a:DA):Option Int:=
 (qx_W0 n (a,((aC a),0))).bind λb=>
 Sum.rec (λc=>
 some c) (λd=>
 some (-1)) b
def qf(n:Nat)(a:DA):Option Bool:=
 (qx n a).bind λb=>
 some (decide (b≥0))
def qav(n:Nat)(a:DA)(b c:Int):Option Bool:=
 (qbn n b c).bind λd=>
 bif(!d)then
 some true
 else
 (qf n a).bind λe=>
 some e
def qk_B0(n:Nat)(c:DK)(d a:Int):Option (EAS⊕EAN):=
 bif(decide (a<d))then
 (aM c a).bind λb=>
 (qav n b.1 b.2.1 b.2.2).bind λe=>
 bif e then
 some (Sum.inr (Sum.inl a))
 else
 some (Sum.inl (c,(d,(aX .i64 a 1))))
 else
 some (Sum.inr (Sum.inr ()))
def qk_W0(n:Nat)(s:DK×Int×Int):Option EAN:=aY (λs=>qk_B0 n s.1 s.2.1 s.2.2) n s
def qk(n:Nat)(a:DK):Option Int:=
 (qk_W0 n (a,((aC a),0))).bind λb=>
 Sum.rec (λc=>
 some c) (λd=>
 some (-1)) b
def qb(n:Nat)(a:DK):Option Bool:=
 (qk n a).bind λb=>
 some (decide (b≥0))
def qbh(n:Nat)(b:DI)(a:DJ)(c:DK)(d:DC)(e:DD):Option Int:=
 (qah n b a c d e).bind λf=>
 bif(f.2 !=0)then
 some f.2
 else
 (qbh_W0 n ((a,((aC a),0)),(b,(a,(c,(d,e)))))).bind λg=>
 Sum.rec (λh=>
 some h.1) (λi=>
 (qb n i.2.2.1).bind λj=>
 bif j then
 some 1
 else
 some 0) g
def qbt(n:Nat)(b:DI)(a:DJ)(c:DK)(d:DC)(e:DD):Option Bool:=
 (qbh n b a c d e).bind λf=>
 bif(f==0)then
 (aM a 0).bind λg=>
 bif((aC g.1)==0)then
 (aM a 0).bind λh=>
 some (h.2.1==1)
 else
 some false
 else
 some false
def Ga(n:Nat)(a:DA):Option DA:=
 bif(List.isEmpty a)then
 Go.Ab.amb (
 some ([]:List EAA)) (
 bif(Nat.ble (List.length a) 4294967296)then
 some a
 else none)
 else
 bif(Nat.ble (List.length a) 4294967296)then
 some a
 else none
def qbe(n:Nat)(a:DA):Option DA:=
 bif(Nat.ble (List.length a) 4294967296)then
 some a
 else none
theorem qbe_amb(n:Nat)(s:DA):Ga n s=qbe n s:=by
 cases s with
 |nil=>exact(if_pos rfl)
 |cons x l=>rfl
def qbo(n:Nat)(a:DA):Option EBB:=
 bif((decide (0≤(aC a)))&&(decide ((aC a)≤(((List.length a):Nat):Int))))then
 bif((decide (0≤(aC a)))&&(decide ((aC a)≤(((Int.toNat (aC a)):Nat):Int))))then
 some ((0,((Int.toNat (aC a))-0)),a)
 else none
 else none
def qcb(n:Nat)(a b:Int):Option Bool:=
 bif(a==2)then
 some true
 else
 bif(a==3)then
 some true
 else
 bif(a==4)then
 some true
 else
 bif(a==6)then
 some true
 else
 bif(a==7)then
 some true
 else
 some false
def qbz(n:Nat)(b c a d:Int):Option Bool:=
 bif((b==a)&&(c==d))then
 some true
 else
 bif(a==8)then
 some true
 else
 (qcb n b c).bind λe=>
 bif e then
 (qcb n a d).bind λf=>
 bif f then
 bif(b==6)then
 some true
 else
 some (a==7)
 else
 some false
 else
 some false
def qbm(n:Nat)(a b c d:Int):Option EAA:=
 (qbz n a b c d).bind λe=>
 bif e then
 some (c,d)
 else
 (qbz n c d a b).bind λf=>
 bif f then
 some (a,b)
 else
 (qcb n a b).bind λg=>
 bif g then
 (qcb n c d).bind λh=>
 bif h then
 some (7,0)
 else
 some (8,0)
 else
 some (8,0)
def qn_B0(n:Nat)(a:Int)(f:Nat)(o:Bool)(i:DA)(j b:Int)(k:DI×DJ×DK×DC×DD×Int)(c:DM):Option ((EAL×EAE×DM)⊕((Int×Bool)×EAE×DM)):=
 bif(decide (b<j))then
 (aM i b).bind λp=>
 bif(decide (0≤a))then
 (c[(Int.toNat a)]?).bind λd=>
 (c[f]?).bind λu=>
 bif(Nat.beq f (Int.toNat a))then
 bif((decide (0≤b))&&(decide (b<(((List.length d.2):Nat):Int))))then
 (d.2[(Int.toNat b)]?).bind λq=>
 (qbm n q.1 q.2 p.1 p.2).bind λl=>
 (c[(Int.toNat a)]?).bind λe=>
 bif(decide (0≤a))then
 ((List.set c (Int.toNat a) (e.1,d.2))[(Int.toNat a)]?).bind λg=>
 ((List.set c (Int.toNat a) (e.1,d.2))[f]?).bind λv=>
 bif(Nat.beq f (Int.toNat a))then
 bif((decide (0≤b))&&(decide (b<(((List.length g.2):Nat):Int))))then
 (g.2[(Int.toNat b)]?).bind λr=>
 bif(!((l.1==r.1)&&(l.2==r.2)))then
 ((List.set c (Int.toNat a) (e.1,d.2))[(Int.toNat a)]?).bind λh=>
 bif(decide (0≤a))then
 ((List.set (List.set c (Int.toNat a) (e.1,d.2)) (Int.toNat a) (h.1,g.2))[(Int.toNat a)]?).bind λm=>
 ((List.set (List.set c (Int.toNat a) (e.1,d.2)) (Int.toNat a) (h.1,g.2))[f]?).bind λw=>
 bif(Nat.beq f (Int.toNat a))then
 bif((decide (0≤b))&&(decide (b<(((List.length m.2):Nat):Int))))then
 bif(Nat.ble ((Int.toNat b)+1) (List.length m.2))then
 ((List.set (List.set c (Int.toNat a) (e.1,d.2)) (Int.toNat a) (h.1,g.2))[(Int.toNat a)]?).bind λs=>
 some (Sum.inl ((a,(f,(true,(i,(j,(aX .i64 b 1)))))),(k,(List.set (List.set (List.set c (Int.toNat a) (e.1,d.2)) (Int.toNat a) (h.1,g.2)) (Int.toNat a) (s.1,(List.set m.2 (Int.toNat b) l))))))
 else none
 else none
 else none
 else none
 else
 ((List.set c (Int.toNat a) (e.1,d.2))[(Int.toNat a)]?).bind λt=>
 some (Sum.inl ((a,(f,(o,(i,(j,(aX .i64 b 1)))))),(k,(List.set (List.set c (Int.toNat a) (e.1,d.2)) (Int.toNat a) (t.1,g.2)))))
 else none
 else none
 else none
 else none
 else none
 else none
 else
 some (Sum.inr ((a,o),(k,c)))
def qn_W0(n:Nat)(s:EAL×EAE×DM):Option ((Int×Bool)×EAE×DM):=aY (λs=>qn_B0 n s.1.1 s.1.2.1 s.1.2.2.1 s.1.2.2.2.1 s.1.2.2.2.2.1 s.1.2.2.2.2.2 s.2.1 s.2.2) n s
def qn(n:Nat)(a:Int)(f:DA)(d:DI×DJ×DK×DC×DD×Int)(c:DM):Option (EAY⊕((Bool×EAE×DM)⊕(EAY⊕(Bool×EAE×DM)))):=
 bif((decide (0≤a))&&(decide (a<(((List.length c):Nat):Int))))then
 (c[(Int.toNat a)]?).bind λi=>
 bif(!i.1)then
 (qbe n f).bind λj=>
 (qbo n j).bind λe=>
 (c[(Int.toNat a)]?).bind λg=>
 ((List.set c (Int.toNat a) (true,g.2))[(Int.toNat a)]?).bind λo=>
 bif(Nat.ble (List.length (a::([]:DE))) 4294967296)then
 bif(Nat.beq e.1.1 0)then
 bif(Nat.ble e.1.2 (List.length e.2))then
 ((List.set c (Int.toNat a) (true,g.2))[(Int.toNat a)]?).bind λk=>
 some (Sum.inl (true,((d.1,(d.2.1,(d.2.2.1,(d.2.2.2.1,(d.2.2.2.2.1,(d.2.2.2.2.2,(0,(List.length (a::([]:DE)))))))))),((List.set (List.set c (Int.toNat a) (true,g.2)) (Int.toNat a) (k.1,(List.take e.1.2 e.2))),(a::([]:DE))))))
 else none
 else none
 else none
 else
 (c[(Int.toNat a)]?).bind λh=>
 bif((aC h.2) !=(aC f))then
 (c[(Int.toNat a)]?).bind λl=>
 some (Sum.inr (Sum.inl (false,(d,(List.set c (Int.toNat a) (l.1,h.2))))))
 else
 (c[(Int.toNat a)]?).bind λm=>
 (qn_W0 n ((a,((Int.toNat a),(false,(f,((aC f),0))))),(d,(List.set c (Int.toNat a) (m.1,h.2))))).bind λb=>
 bif b.1.2 then
 bif(Nat.ble (List.length (b.1.1::([]:DE))) 4294967296)then
 some (Sum.inr (Sum.inr (Sum.inl (true,((b.2.1.1,(b.2.1.2.1,(b.2.1.2.2.1,(b.2.1.2.2.2.1,(b.2.1.2.2.2.2.1,(b.2.1.2.2.2.2.2,(0,(List.length (b.1.1::([]:DE)))))))))),(b.2.2,(b.1.1::([]:DE))))))))
 else none
 else
 some (Sum.inr (Sum.inr (Sum.inr (true,b.2))))
 else none
def qbi(n:Nat)(a:DA):Option DA:=
 some a
def qbu(n:Nat)(b:Int)(a:DA):Option ((DA×DA)×Bool):=
 bif(b==6)then
 bif(decide ((aC a)≥1))then
 (aM a (bO .i64 (aC a) 1)).bind λc=>
 (qbi n (c::([]:List EAA))).bind λd=>
 (qbi n (c::(c::([]:List EAA)))).bind λe=>
 some ((d,e),true)
 else
 bif(b==7)then
 bif(decide ((aC a)≥2))then
 (aM a (bO .i64 (aC a) 2)).bind λf=>
 (aM a (bO .i64 (aC a) 1)).bind λg=>
 (qbi n (f::(g::([]:List EAA)))).bind λh=>
 (aM a (bO .i64 (aC a) 1)).bind λi=>
 (aM a (bO .i64 (aC a) 2)).bind λj=>
 (qbi n (i::(j::([]:List EAA)))).bind λk=>
 some ((h,k),true)
 else
 bif(b==41)then
 bif(decide ((aC a)≥1))then
 (aM a (bO .i64 (aC a) 1)).bind λl=>
 bif(l.1==5)then
 (aM a (bO .i64 (aC a) 1)).bind λm=>
 (qbi n (m::([]:List EAA))).bind λo=>
 some ((o,[]),true)
 else
 some (([],[]),false)
 else
 some (([],[]),false)
 else
 some (([],[]),false)
 else
 bif(b==41)then
 bif(decide ((aC a)≥1))then
 (aM a (bO .i64 (aC a) 1)).bind λp=>
 bif(p.1==5)then
 (aM a (bO .i64 (aC a) 1)).bind λq=>
 (qbi n (q::([]:List EAA))).bind λr=>
 some ((r,[]),true)
 else
 some (([],[]),false)
 else
 some (([],[]),false)
 else
 some (([],[]),false)
 else
 bif(b==7)then
 bif(decide ((aC a)≥2))then
 (aM a (bO .i64 (aC a) 2)).bind λs=>
 (aM a (bO .i64 (aC a) 1)).bind λt=>
 (qbi n (s::(t::([]:List EAA)))).bind λu=>
 (aM a (bO .i64 (aC a) 1)).bind λv=>
 (aM a (bO .i64 (aC a) 2)).bind λw=>
 (qbi n (v::(w::([]:List EAA)))).bind λx=>
 some ((u,x),true)
 else
 bif(b==41)then
 bif(decide ((aC a)≥1))then
 (aM a (bO .i64 (aC a) 1)).bind λy=>
 bif(y.1==5)then
 (aM a (bO .i64 (aC a) 1)).bind λz=>
 (qbi n (z::([]:List EAA))).bind λaa=>
 some ((aa,[]),true)
 else
 some (([],[]),false)
 else
 some (([],[]),false)
 else
 some (([],[]),false)
 else
 bif(b==41)then
 bif(decide ((aC a)≥1))then
 (aM a (bO .i64 (aC a) 1)).bind λab=>
 bif(ab.1==5)then
 (aM a (bO .i64 (aC a) 1)).bind λac=>
 (qbi n (ac::([]:List EAA))).bind λad=>
 some ((ad,[]),true)
 else
 some (([],[]),false)
 else
 some (([],[]),false)
 else
 some (([],[]),false)
def qbf(n:Nat)(a:Int):Option ((DA×DA)×Bool):=
 bif(a==2)then
 (qbi n ((6,0)::([]:List EAA))).bind λd=>
 some (([],d),true)
 else
 bif(a==5)then
 (qbi n ((8,0)::([]:List EAA))).bind λe=>
 some ((e,[]),true)
 else
 bif(a==22)then
 (qbi n ((1,0)::((1,0)::([]:List EAA)))).bind λf=>
 (qbi n ((1,0)::((1,0)::([]:List EAA)))).bind λg=>
 some ((f,g),true)
 else
 bif(a==23)then
 some (([],[]),true)
 else
 bif(a==24)then
 (qbi n ((1,0)::([]:List EAA))).bind λh=>
 some ((h,[]),true)
 else
 bif(a==31)then
 (qbi n ((1,0)::([]:List EAA))).bind λi=>
 (qbi n ((3,0)::([]:List EAA))).bind λj=>
 some ((i,j),true)
 else
 bif(a==32)then
 (qbi n ((3,0)::((1,0)::([]:List EAA)))).bind λk=>
 (qbi n ((1,0)::([]:List EAA))).bind λl=>
 some ((k,l),true)
 else
 bif(a==33)then
 (qbi n ((3,0)::((1,0)::((1,0)::([]:List EAA))))).bind λm=>
 some ((m,[]),true)
 else
 bif(a==34)then
 (qbi n ((3,0)::([]:List EAA))).bind λo=>
 (qbi n ((1,0)::([]:List EAA))).bind λp=>
 some ((o,p),true)
 else
 bif(a==35)then
 (qbi n ((1,0)::([]:List EAA))).bind λq=>
 (qbi n ((2,0)::([]:List EAA))).bind λr=>
 some ((q,r),true)
 else
 bif(a==36)then
 (qbi n ((2,0)::((1,0)::([]:List EAA)))).bind λs=>
 (qbi n ((1,0)::([]:List EAA))).bind λt=>
 some ((s,t),true)
 else
 bif(a==37)then
 (qbi n ((2,0)::((1,0)::((1,0)::([]:List EAA))))).bind λu=>
 some ((u,[]),true)
 else
 bif(a==38)then
 (qbi n ((2,0)::([]:List EAA))).bind λv=>
 (qbi n ((1,0)::([]:List EAA))).bind λw=>
 some ((v,w),true)
 else
 bif(a==39)then
 (qbi n ((7,0)::([]:List EAA))).bind λx=>
 (qbi n ((1,0)::([]:List EAA))).bind λy=>
 some ((x,y),true)
 else
 bif(a==40)then
 (qbi n ((7,0)::((7,0)::([]:List EAA)))).bind λz=>
 (qbi n ((1,0)::([]:List EAA))).bind λaa=>
 some ((z,aa),true)
 else
 (qbi n ((1,0)::((1,0)::([]:List EAA)))).bind λb=>
 (qbi n ((1,0)::([]:List EAA))).bind λc=>
 bif(decide (a≥8))then
 some ((b,c),(decide (a≤21)))
 else
 some ((b,c),false)
def qbb(n:Nat)(b:DA)(g h:Int)(c:DA)(i:DB)(a:Int):Option EAA:=
 bif(decide (a≥0))then
 bif(decide (a<(aC b)))then
 (aM b a).bind λd=>
 some d
 else
 bif(decide (a≥0))then
 bif(decide (a<(aX .i64 (aC b) (aC c))))then
 (aM c (bO .i64 a (aC b))).bind λe=>
 some e
 else
 some (8,0)
 else
 some (8,0)
 else
 bif(decide (a≥0))then
 bif(decide (a<(aX .i64 (aC b) (aC c))))then
 (aM c (bO .i64 a (aC b))).bind λf=>
 some f
 else
 some (8,0)
 else
 some (8,0)
def qbc(n:Nat)(c:DI)(f:DJ)(g:DK)(ai:DC)(aj:DD)(h:DA)(d e:Int)(i:DA)(j:DB)(b a k:Int):Option (DA×DA):=
 bif(b==0)then
 (qbi n ((1,0)::([]:List EAA))).bind λm=>
 some ([],m)
 else
 bif(b==1)then
 (qbi n ((2,0)::([]:List EAA))).bind λo=>
 some ([],o)
 else
 bif(b==3)then
 (qbb n h d e i j a).bind λp=>
 (qbi n (p::([]:List EAA))).bind λq=>
 some ([],q)
 else
 bif(b==4)then
 (qbb n h d e i j a).bind λr=>
 (qbi n (r::([]:List EAA))).bind λs=>
 some (s,[])
 else
 bif(b==25)then
 (aM f a).bind λt=>
 (aM f a).bind λl=>
 (qbi n ((l.2.1,l.2.2.1)::([]:List EAA))).bind λu=>
 some (t.1,u)
 else
 bif(b==26)then
 (qbi n ((d,e)::([]:List EAA))).bind λv=>
 some (v,[])
 else
 bif(b==27)then
 (aM g a).bind λw=>
 (aM g a).bind λx=>
 (qbi n (x.2::([]:List EAA))).bind λy=>
 some (w.1,y)
 else
 bif(b==28)then
 (aM c a).bind λz=>
 (qbi n ((4,a)::([]:List EAA))).bind λaa=>
 some (z,aa)
 else
 bif(b==29)then
 (qbi n ((4,a)::([]:List EAA))).bind λab=>
 (aM c a).bind λac=>
 (aM ac k).bind λad=>
 (qbi n (ad::([]:List EAA))).bind λae=>
 some (ab,ae)
 else
 (aM c a).bind λaf=>
 (aM af k).bind λag=>
 (qbi n ((4,a)::(ag::([]:List EAA)))).bind λah=>
 some (ah,[])
def qcd(n:Nat)(d:DI)(e:DJ)(f:DK)(g:DC)(h:DD)(i:DA)(j k:Int)(l:DA)(m:DB)(a o p:Int)(b:DA):Option ((DA×DA)×Bool):=
 bif(a==6)then
 (qbu n a b).bind λq=>
 some q
 else
 bif(a==7)then
 (qbu n a b).bind λr=>
 some r
 else
 bif(a==41)then
 (qbu n a b).bind λs=>
 some s
 else
 (qbf n a).bind λc=>
 bif c.2 then
 some (c.1,true)
 else
 (qbc n d e f g h i j k l m a o p).bind λt=>
 some (t,true)
def qbr_B0(n:Nat)(l:Int)(b:DA)(c:Int)(m:DA)(o a:Int)(d:DA)(e f:Int)(g:DA)(h:DB)(i j:DA):Option (((Int×DA×Int×DA×Int×Int)×EAF×DA×DA)⊕((EAQ×EAF×(DA×DA)×Int×Int)⊕((Int×DA×Int)×EAF×DA×DA))):=
 bif(decide (a<o))then
 (aM m a).bind λk=>
 (aM b (aX .i64 c a)).bind λp=>
 (qbz n p.1 p.2 k.1 k.2).bind λq=>
 bif(!q)then
 some (Sum.inr (Sum.inl ((([]:List EAA),(([]:DE),4)),((d,(e,(f,(g,h)))),((i,j),k)))))
 else
 some (Sum.inl ((l,(b,(c,(m,(o,(aX .i64 a 1)))))),((d,(e,(f,(g,h)))),(i,j))))
 else
 some (Sum.inr (Sum.inr ((l,(b,c)),((d,(e,(f,(g,h)))),(i,j)))))
def qbr_W0(n:Nat)(s:(Int×DA×Int×DA×Int×Int)×EAF×DA×DA):Option ((EAQ×EAF×(DA×DA)×Int×Int)⊕((Int×DA×Int)×EAF×DA×DA)):=aY (λs=>qbr_B0 n s.1.1 s.1.2.1 s.1.2.2.1 s.1.2.2.2.1 s.1.2.2.2.2.1 s.1.2.2.2.2.2 s.2.1.1 s.2.1.2.1 s.2.1.2.2.1 s.2.1.2.2.2.1 s.2.1.2.2.2.2 s.2.2.1 s.2.2.2) n s
def qbv(n:Nat)(a b d c:Int):Option DC:=
 bif(a==26)then
 some ([]:DE)
 else
 bif(a==23)then
 some (b::([]:DE))
 else
 bif(a==24)then
 some ((aX .i64 c 1)::(b::([]:DE)))
 else
 some ((aX .i64 c 1)::([]:DE))
def qar_B0(n:Nat)(c:DI)(a:Int)(d:DI)(e b:Int):Option ((DI×Int×DI×Int×Int)⊕(DI×Int)):=
 bif(decide (b<e))then
 (aM d b).bind λf=>
 bif(decide ((aX .i64 a (aC f))<0))then
 none
 else
 some (Sum.inl (c,((aX .i64 a (aC f)),(d,(e,(aX .i64 b 1))))))
 else
 some (Sum.inr (c,a))
def qar_W0(n:Nat)(s:DI×Int×DI×Int×Int):Option (DI×Int):=aY (λs=>qar_B0 n s.1 s.2.1 s.2.2.1 s.2.2.2.1 s.2.2.2.2) n s
def qbs(n:Nat)(a:Int):Option (EBB⊕Unit):=
 bif(decide (a<0))then
 none
 else
 bif(decide ((bO .i64 a 0)>0))then
 bif((decide (1≤(bO .i64 a 0)))&&(Nat.ble (Int.toNat (bO .i64 a 0)) 4294967296))then
 bif(decide (0≤(((List.length (List.replicate (Int.toNat (bO .i64 a 0)) (0,0))):Nat):Int)))then
 some (Sum.inl ((0,0),(List.replicate (Int.toNat (bO .i64 a 0)) (0,0))))
 else none
 else none
 else
 some (Sum.inr ())
def qar_B2x1q0(n:Nat)(a:Nat×Nat)(d:DI)(e c:Int)(b:DA):Option (((EAW×DA)⊕((EAG×DA)⊕EAG))⊕(EBB⊕(DA⊕Unit))):=
 bif(decide (c<e))then
 (aM d c).bind λf=>
 bif(Nat.ble (a.1+a.2) (List.length b))then
 bif(Nat.ble (List.length ((List.take a.2 (List.drop a.1 b))++f)) 4294967296)then
 bif(Nat.beq a.1 0)then
 some (Sum.inl (Sum.inr (Sum.inl ((d,(e,(aX .i64 c 1))),((List.take a.2 (List.drop a.1 b))++f)))))
 else none
 else none
 else none
 else
 some (Sum.inr (Sum.inl (a,b)))
def qar_B2x1q1(n:Nat)(c:DI)(d a:Int)(b:DA):Option (((EAW×DA)⊕((EAG×DA)⊕EAG))⊕(EBB⊕(DA⊕Unit))):=
 bif(decide (a<d))then
 (aM c a).bind λe=>
 bif(Nat.ble (List.length (b++e)) 4294967296)then
 some (Sum.inl (Sum.inr (Sum.inl ((c,(d,(aX .i64 a 1))),(b++e)))))
 else none
 else
 some (Sum.inr (Sum.inr (Sum.inl b)))
def qar_B2x1q2(n:Nat)(b:DI)(c a:Int):Option (((EAW×DA)⊕((EAG×DA)⊕EAG))⊕(EBB⊕(DA⊕Unit))):=
 bif(decide (a<c))then
 (aM b a).bind λd=>
 bif(Nat.ble (List.length d) 4294967296)then
 some (Sum.inl (Sum.inr (Sum.inl ((b,(c,(aX .i64 a 1))),d))))
 else none
 else
 some (Sum.inr (Sum.inr (Sum.inr ())))
def qar_M2x1(n:Nat)(s:(EAW×DA)⊕((EAG×DA)⊕EAG)):Option (((EAW×DA)⊕((EAG×DA)⊕EAG))⊕(EBB⊕(DA⊕Unit))):=Sum.rec (λa=>qar_B2x1q0 n a.1.1 a.1.2.1 a.1.2.2.1 a.1.2.2.2 a.2) (λd=>Sum.rec (λb=>qar_B2x1q1 n b.1.1 b.1.2.1 b.1.2.2 b.2) (λc=>qar_B2x1q2 n c.1 c.2.1 c.2.2) d) s
def qar_W2x1(n:Nat)(s:(EAW×DA)⊕((EAG×DA)⊕EAG)):Option (EBB⊕(DA⊕Unit)):=aY (qar_M2x1 n) n s
def qar(n:Nat)(b:DI):Option (EBB⊕DA):=
 (qar_W0 n (b,(0,(b,((aC b),0))))).bind λa=>
 (qbs n a.2).bind λd=>
 Sum.rec (λc=>
 (qar_W2x1 n (Sum.inl ((c.1,(a.1,((aC a.1),0))),c.2))).bind λe=>
 Sum.rec (λf=>
 some (Sum.inl f)) (λg=>
 Sum.rec (λh=>
 some (Sum.inr h)) (λm=>
 some (Sum.inr [])) g) e) (λo=>
 (qar_W2x1 n (Sum.inr (Sum.inr (a.1,((aC a.1),0))))).bind λi=>
 Sum.rec (λj=>
 some (Sum.inl j)) (λk=>
 Sum.rec (λl=>
 some (Sum.inr l)) (λp=>
 some (Sum.inr [])) k) i) d
def qaw(n:Nat)(a:DA):Option DA:=
 bif((decide (0≤(aC a)))&&(decide ((aC a)≤(((List.length a):Nat):Int))))then
 bif((decide (0≤(aC a)))&&(decide ((aC a)≤(((Int.toNat (aC a)):Nat):Int))))then
 some (List.take (Int.toNat (aC a)) a)
 else none
 else none
def qax(n:Nat)(a:DA):Option DA:=
 bif((decide (0≤(aC a)))&&(decide ((aC a)≤(((List.length a):Nat):Int))))then
 bif((decide (0≤(aC a)))&&(decide ((aC a)≤(((Int.toNat (aC a)):Nat):Int))))then
 some (List.take (Int.toNat (aC a)) a)
 else none
 else none
def qbr(n:Nat)(l:DI)(j:DJ)(m:DK)(o:DC)(p:DD)(q k:Int)(d:DA):Option EAQ:=
 (aM j q).bind λc=>
 (aM c.2.2.2.2 k).bind λf=>
 (qcd n l j m o p c.1 c.2.1 c.2.2.1 c.2.2.2.1 c.2.2.2.2 f.1 f.2.1 f.2.2 d).bind λb=>
 bif(!b.2)then
 some (([]:List EAA),(([]:DE),4))
 else
 bif(decide ((bO .i64 (aC d) (aC b.1.1))<0))then
 some (([]:List EAA),(([]:DE),4))
 else
 bif(decide ((aX .i64 (bO .i64 (aC d) (aC b.1.1)) (aC b.1.2))>8))then
 some (([]:List EAA),(([]:DE),4))
 else
 (qbr_W0 n ((k,(d,((bO .i64 (aC d) (aC b.1.1)),(b.1.1,((aC b.1.1),0))))),(c,b.1))).bind λr=>
 Sum.rec (λs=>
 some s.1) (λa=>
 (aM a.2.1.2.2.2.2 a.1.1).bind λg=>
 (qbv n g.1 g.2.1 g.2.2 a.1.1).bind λe=>
 bif(decide ((aC e)>0))then
 (aM e 0).bind λt=>
 bif(decide (t≥(aC a.2.1.2.2.2.2)))then
 some (([]:List EAA),(([]:DE),1))
 else
 bif((decide (0≤a.1.2.2))&&(decide (a.1.2.2≤(((List.length a.1.2.1):Nat):Int))))then
 (qar n ((List.take (Int.toNat a.1.2.2) a.1.2.1)::(a.2.2.2::([]:List (List EAA))))).bind λu=>
 Sum.rec (λh=>
 bif(Nat.ble (h.1.1+h.1.2) (List.length h.2))then
 none
 else none) (λv=>
 (qaw n v).bind λw=>
 some (w,(e,0))) u
 else none
 else
 bif((decide (0≤a.1.2.2))&&(decide (a.1.2.2≤(((List.length a.1.2.1):Nat):Int))))then
 (qar n ((List.take (Int.toNat a.1.2.2) a.1.2.1)::(a.2.2.2::([]:List (List EAA))))).bind λx=>
 Sum.rec (λi=>
 bif(Nat.ble (i.1.1+i.1.2) (List.length i.2))then
 none
 else none) (λy=>
 (qaw n y).bind λz=>
 some (z,(e,0))) x
 else none) r
def qc_B0(n:Nat)(a:Int)(f:Nat)(p:Bool)(i:DA)(j b:Int)(k:DI×DJ×DK×DC×DD×Int×EAI)(c:DM)(l:DC):Option ((EAL×EAB×DM×DC)⊕((Int×Bool)×EAB×DM×DC)):=
 bif(decide (b<j))then
 (aM i b).bind λq=>
 bif(decide (0≤a))then
 (c[(Int.toNat a)]?).bind λd=>
 (c[f]?).bind λv=>
 bif(Nat.beq f (Int.toNat a))then
 bif((decide (0≤b))&&(decide (b<(((List.length d.2):Nat):Int))))then
 (d.2[(Int.toNat b)]?).bind λr=>
 (qbm n r.1 r.2 q.1 q.2).bind λm=>
 (c[(Int.toNat a)]?).bind λe=>
 bif(decide (0≤a))then
 ((List.set c (Int.toNat a) (e.1,d.2))[(Int.toNat a)]?).bind λg=>
 ((List.set c (Int.toNat a) (e.1,d.2))[f]?).bind λw=>
 bif(Nat.beq f (Int.toNat a))then
 bif((decide (0≤b))&&(decide (b<(((List.length g.2):Nat):Int))))then
 (g.2[(Int.toNat b)]?).bind λs=>
 bif(!((m.1==s.1)&&(m.2==s.2)))then
 ((List.set c (Int.toNat a) (e.1,d.2))[(Int.toNat a)]?).bind λh=>
 bif(decide (0≤a))then
 ((List.set (List.set c (Int.toNat a) (e.1,d.2)) (Int.toNat a) (h.1,g.2))[(Int.toNat a)]?).bind λo=>
 ((List.set (List.set c (Int.toNat a) (e.1,d.2)) (Int.toNat a) (h.1,g.2))[f]?).bind λx=>
 bif(Nat.beq f (Int.toNat a))then
 bif((decide (0≤b))&&(decide (b<(((List.length o.2):Nat):Int))))then
 bif(Nat.ble ((Int.toNat b)+1) (List.length o.2))then
 ((List.set (List.set c (Int.toNat a) (e.1,d.2)) (Int.toNat a) (h.1,g.2))[(Int.toNat a)]?).bind λt=>
 some (Sum.inl ((a,(f,(true,(i,(j,(aX .i64 b 1)))))),(k,((List.set (List.set (List.set c (Int.toNat a) (e.1,d.2)) (Int.toNat a) (h.1,g.2)) (Int.toNat a) (t.1,(List.set o.2 (Int.toNat b) m))),l))))
 else none
 else none
 else none
 else none
 else
 ((List.set c (Int.toNat a) (e.1,d.2))[(Int.toNat a)]?).bind λu=>
 some (Sum.inl ((a,(f,(p,(i,(j,(aX .i64 b 1)))))),(k,((List.set (List.set c (Int.toNat a) (e.1,d.2)) (Int.toNat a) (u.1,g.2)),l))))
 else none
 else none
 else none
 else none
 else none
 else none
 else
 some (Sum.inr ((a,p),(k,(c,l))))
def qc_W0(n:Nat)(s:EAL×EAB×DM×DC):Option ((Int×Bool)×EAB×DM×DC):=aY (λs=>qc_B0 n s.1.1 s.1.2.1 s.1.2.2.1 s.1.2.2.2.1 s.1.2.2.2.2.1 s.1.2.2.2.2.2 s.2.1 s.2.2.1 s.2.2.2) n s
def qc(n:Nat)(b:Int)(g:DA)(c:DI×DJ×DK×DC×DD×Int×EAI)(d:DM)(e:DC):Option (EAY⊕(EAY⊕EAY)):=
 bif((decide (0≤b))&&(decide (b<(((List.length d):Nat):Int))))then
 (d[(Int.toNat b)]?).bind λj=>
 bif(!j.1)then
 (qbe n g).bind λk=>
 (qbo n k).bind λf=>
 (d[(Int.toNat b)]?).bind λh=>
 ((List.set d (Int.toNat b) (true,h.2))[(Int.toNat b)]?).bind λp=>
 bif(Nat.ble (c.2.2.2.2.2.2.1+c.2.2.2.2.2.2.2) (List.length e))then
 bif(Nat.ble (List.length ((List.take c.2.2.2.2.2.2.2 (List.drop c.2.2.2.2.2.2.1 e))++(b::([]:DE)))) 4294967296)then
 bif((Nat.beq c.2.2.2.2.2.2.1 0)||(Nat.ble 1 (List.length ((List.take c.2.2.2.2.2.2.2 (List.drop c.2.2.2.2.2.2.1 e))++(b::([]:DE))))))then
 bif(Nat.beq f.1.1 0)then
 bif(Nat.ble f.1.2 (List.length f.2))then
 ((List.set d (Int.toNat b) (true,h.2))[(Int.toNat b)]?).bind λl=>
 some (Sum.inl (true,((c.1,(c.2.1,(c.2.2.1,(c.2.2.2.1,(c.2.2.2.2.1,(c.2.2.2.2.2.1,(0,(List.length ((List.take c.2.2.2.2.2.2.2 (List.drop c.2.2.2.2.2.2.1 e))++(b::([]:DE))))))))))),((List.set (List.set d (Int.toNat b) (true,h.2)) (Int.toNat b) (l.1,(List.take f.1.2 f.2))),((List.take c.2.2.2.2.2.2.2 (List.drop c.2.2.2.2.2.2.1 e))++(b::([]:DE)))))))
 else none
 else none
 else none
 else none
 else none
 else
 (d[(Int.toNat b)]?).bind λi=>
 bif((aC i.2) !=(aC g))then
 (d[(Int.toNat b)]?).bind λm=>
 some (Sum.inr (Sum.inl (false,(c,((List.set d (Int.toNat b) (m.1,i.2)),e)))))
 else
 (d[(Int.toNat b)]?).bind λo=>
 (qc_W0 n ((b,((Int.toNat b),(false,(g,((aC g),0))))),(c,((List.set d (Int.toNat b) (o.1,i.2)),e)))).bind λa=>
 bif a.1.2 then
 bif(Nat.ble (a.2.1.2.2.2.2.2.2.1+a.2.1.2.2.2.2.2.2.2) (List.length a.2.2.2))then
 bif(Nat.ble (List.length ((List.take a.2.1.2.2.2.2.2.2.2 (List.drop a.2.1.2.2.2.2.2.2.1 a.2.2.2))++(a.1.1::([]:DE)))) 4294967296)then
 bif((Nat.beq a.2.1.2.2.2.2.2.2.1 0)||(Nat.ble 1 (List.length ((List.take a.2.1.2.2.2.2.2.2.2 (List.drop a.2.1.2.2.2.2.2.2.1 a.2.2.2))++(a.1.1::([]:DE))))))then
 some (Sum.inr (Sum.inr (true,((a.2.1.1,(a.2.1.2.1,(a.2.1.2.2.1,(a.2.1.2.2.2.1,(a.2.1.2.2.2.2.1,(a.2.1.2.2.2.2.2.1,(0,(List.length ((List.take a.2.1.2.2.2.2.2.2.2 (List.drop a.2.1.2.2.2.2.2.2.1 a.2.2.2))++(a.1.1::([]:DE))))))))))),(a.2.2.1,((List.take a.2.1.2.2.2.2.2.2.2 (List.drop a.2.1.2.2.2.2.2.2.1 a.2.2.2))++(a.1.1::([]:DE))))))))
 else none
 else none
 else none
 else
 some (Sum.inr (Sum.inr (true,a.2)))
 else none
def qp_B0(n:Nat)(a:Int)(c:DA)(d:DC)(e b:Int)(i:DI×DJ×DK×DC×DD×Int×EAI)(j:DM)(k:DC):Option (((Int×DA×DC×Int×Int)×EAB×DM×DC)⊕(EAT⊕(EAT⊕(EAT⊕EAZ)))):=
 bif(decide (b<e))then
 (aM d b).bind λl=>
 (qc n l c i j k).bind λm=>
 Sum.rec (λf=>
 bif(!f.1)then
 some (Sum.inr (Sum.inl ((a,4),f.2)))
 else
 some (Sum.inl ((a,(c,(d,(e,(aX .i64 b 1))))),f.2))) (λo=>
 Sum.rec (λg=>
 bif(!g.1)then
 some (Sum.inr (Sum.inr (Sum.inl ((a,4),g.2))))
 else
 some (Sum.inl ((a,(c,(d,(e,(aX .i64 b 1))))),g.2))) (λh=>
 bif(!h.1)then
 some (Sum.inr (Sum.inr (Sum.inr (Sum.inl ((a,4),h.2)))))
 else
 some (Sum.inl ((a,(c,(d,(e,(aX .i64 b 1))))),h.2))) o) m
 else
 some (Sum.inr (Sum.inr (Sum.inr (Sum.inr (i,(j,k))))))
def qp_W0(n:Nat)(s:(Int×DA×DC×Int×Int)×EAB×DM×DC):Option (EAT⊕(EAT⊕(EAT⊕EAZ))):=aY (λs=>qp_B0 n s.1.1 s.1.2.1 s.1.2.2.1 s.1.2.2.2.1 s.1.2.2.2.2 s.2.1 s.2.2.1 s.2.2.2) n s
def qp(n:Nat)(a:DI×DJ×DK×DC×DD×Int×EAI)(c:DM)(e:DC):Option (EAT⊕EAT):=
 bif(decide (0<((a.2.2.2.2.2.2.2:Nat):Int)))then
 (e[(a.2.2.2.2.2.2.1+0)]?).bind λb=>
 bif(decide (1≤((a.2.2.2.2.2.2.2:Nat):Int)))then
 bif(decide (0≤b))then
 (c[(Int.toNat b)]?).bind λf=>
 bif((decide (0≤b))&&(decide (b<(((List.length c):Nat):Int))))then
 (c[(Int.toNat b)]?).bind λq=>
 bif(Nat.beq (Int.toNat b) (Int.toNat b))then
 (qbr n a.1 a.2.1 a.2.2.1 a.2.2.2.1 a.2.2.2.2.1 a.2.2.2.2.2.1 b f.2).bind λd=>
 bif(d.2.2 !=0)then
 (c[(Int.toNat b)]?).bind λg=>
 some (Sum.inl ((b,4),((a.1,(a.2.1,(a.2.2.1,(a.2.2.2.1,(a.2.2.2.2.1,(a.2.2.2.2.2.1,((a.2.2.2.2.2.2.1+1),(a.2.2.2.2.2.2.2-1)))))))),((List.set c (Int.toNat b) (g.1,f.2)),e))))
 else
 (c[(Int.toNat b)]?).bind λh=>
 (qp_W0 n ((b,(d.1,(d.2.1,((aC d.2.1),0)))),((a.1,(a.2.1,(a.2.2.1,(a.2.2.2.1,(a.2.2.2.2.1,(a.2.2.2.2.2.1,((a.2.2.2.2.2.2.1+1),(a.2.2.2.2.2.2.2-1)))))))),((List.set c (Int.toNat b) (h.1,f.2)),e)))).bind λi=>
 Sum.rec (λj=>
 some (Sum.inr j)) (λk=>
 Sum.rec (λl=>
 some (Sum.inr l)) (λm=>
 Sum.rec (λo=>
 some (Sum.inr o)) (λp=>
 some (Sum.inr ((0,0),p))) m) k) i
 else none
 else none
 else none
 else none
 else none
def qa_B500x1q0(n:Nat)(a:DI×DJ×DK×DC×DD×Int×EAI)(d:DM)(e:DC):Option ((EAZ⊕(EAE×DM))⊕(EAT⊕(EAT⊕EBC))):=
 bif(((a.2.2.2.2.2.2.2:Nat):Int)==0)then
 some (Sum.inr (Sum.inl ((0,0),(a,(d,e)))))
 else
 (qp n a d e).bind λf=>
 Sum.rec (λb=>
 bif(b.1.2 !=0)then
 some (Sum.inr (Sum.inl b))
 else
 some (Sum.inl (Sum.inl b.2))) (λc=>
 bif(c.1.2 !=0)then
 some (Sum.inr (Sum.inr (Sum.inl c)))
 else
 some (Sum.inl (Sum.inl c.2))) f
def qa_B500x1q1(n:Nat)(a:DI×DJ×DK×DC×DD×Int)(b:DM):Option ((EAZ⊕(EAE×DM))⊕(EAT⊕(EAT⊕EBC))):=
 some (Sum.inr (Sum.inr (Sum.inr ((0,0),(a,b)))))
def qa_M500x1(n:Nat)(s:EAZ⊕(EAE×DM)):Option ((EAZ⊕(EAE×DM))⊕(EAT⊕(EAT⊕EBC))):=Sum.rec (λa=>qa_B500x1q0 n a.1 a.2.1 a.2.2) (λb=>qa_B500x1q1 n b.1 b.2) s
def qa_W500x1(n:Nat)(s:EAZ⊕(EAE×DM)):Option (EAT⊕(EAT⊕EBC)):=aY (qa_M500x1 n) n s
def qa(n:Nat)(b:DI×DJ×DK×DC×DD×Int):Option (EAT⊕EBC):=
 (aM b.2.1 b.2.2.2.2.2).bind λa=>
 bif((((aC a.2.2.2.2)==(aC a.2.2.2.2))&&(decide (0≤(aC a.2.2.2.2))))&&(Nat.ble (Int.toNat (aC a.2.2.2.2)) 4294967296))then
 (qn n 0 ([]:List EAA) b (List.replicate (Int.toNat (aC a.2.2.2.2)) (false,([]:List EAA)))).bind λc=>
 Sum.rec (λd=>
 (qa_W500x1 n (Sum.inl d.2)).bind λe=>
 Sum.rec (λf=>
 some (Sum.inl f)) (λg=>
 Sum.rec (λh=>
 some (Sum.inl h)) (λi=>
 some (Sum.inr i)) g) e) (λj=>
 Sum.rec (λk=>
 (qa_W500x1 n (Sum.inr k.2)).bind λl=>
 Sum.rec (λm=>
 some (Sum.inl m)) (λo=>
 Sum.rec (λp=>
 some (Sum.inl p)) (λq=>
 some (Sum.inr q)) o) l) (λr=>
 Sum.rec (λs=>
 (qa_W500x1 n (Sum.inl s.2)).bind λt=>
 Sum.rec (λu=>
 some (Sum.inl u)) (λv=>
 Sum.rec (λw=>
 some (Sum.inl w)) (λx=>
 some (Sum.inr x)) v) t) (λy=>
 (qa_W500x1 n (Sum.inr y.2)).bind λz=>
 Sum.rec (λaa=>
 some (Sum.inl aa)) (λab=>
 Sum.rec (λac=>
 some (Sum.inl ac)) (λad=>
 some (Sum.inr ad)) ab) z) r) j) c
 else none
def qam_B1(n:Nat)(j c:Int)(d:DI)(e:DJ)(f:DK)(g:DC)(h:DD)(a:DO):Option ((EAA×EAC×DO)⊕((EAJ×EAC×DO×EAB×DM×DC×DO)⊕((EAJ×EAC×DO×EAE×DM×DO)⊕(EAC×DO)))):=
 bif(decide (c<j))then
 (qa n (d,(e,(f,(g,(h,c)))))).bind λk=>
 Sum.rec (λb=>
 bif(b.1.2 !=0)then
 some (Sum.inr (Sum.inl ((c,b.1),((d,(e,(f,(g,h)))),(a,(b.2.1,(b.2.2.1,(b.2.2.2,([]:List (List (Bool×List EAA)))))))))))
 else
 bif(Nat.ble (List.length (a++(b.2.2.1::([]:List (List (Bool×List EAA)))))) 4294967296)then
 some (Sum.inl ((j,(aX .i64 c 1)),((d,(e,(f,(g,h)))),(a++(b.2.2.1::([]:List (List (Bool×List EAA))))))))
 else none) (λi=>
 bif(i.1.2 !=0)then
 some (Sum.inr (Sum.inr (Sum.inl ((c,i.1),((d,(e,(f,(g,h)))),(a,(i.2.1,(i.2.2,([]:List (List (Bool×List EAA)))))))))))
 else
 bif(Nat.ble (List.length (a++(i.2.2::([]:List (List (Bool×List EAA)))))) 4294967296)then
 some (Sum.inl ((j,(aX .i64 c 1)),((d,(e,(f,(g,h)))),(a++(i.2.2::([]:List (List (Bool×List EAA))))))))
 else none) k
 else
 some (Sum.inr (Sum.inr (Sum.inr ((d,(e,(f,(g,h)))),a))))
def qam_W1(n:Nat)(s:EAA×EAC×DO):Option ((EAJ×EAC×DO×EAB×DM×DC×DO)⊕((EAJ×EAC×DO×EAE×DM×DO)⊕(EAC×DO))):=aY (λs=>qam_B1 n s.1.1 s.1.2 s.2.1.1 s.2.1.2.1 s.2.1.2.2.1 s.2.1.2.2.2.1 s.2.1.2.2.2.2 s.2.2) n s
def qam(n:Nat)(b:DI)(a:DJ)(c:DK)(d:DC)(e:DD):Option (DO×Int×Int×Int):=
 (qbh n b a c d e).bind λf=>
 bif(f !=0)then
 some (([]:List (List (Bool×List EAA))),(0,(0,f)))
 else
 (qbt n b a c d e).bind λi=>
 bif(!i)then
 some (([]:List (List (Bool×List EAA))),(0,(0,1)))
 else
 (qam_W1 n (((aC a),0),((b,(a,(c,(d,e)))),([]:List (List (Bool×List EAA)))))).bind λj=>
 Sum.rec (λg=>
 some (g.2.2.2.2.2.2,g.1)) (λk=>
 Sum.rec (λh=>
 some (h.2.2.2.2.2,h.1)) (λl=>
 some (l.2,(0,(0,0)))) k) j
def qat(n:Nat)(f:DI)(b:DJ)(g:DK)(h:DC)(i:DD)(d j:Int)(k:DA):Option EAA:=
 (aM b d).bind λa=>
 (aM b d).bind λl=>
 (aM l.2.2.2.2 j).bind λc=>
 (qcd n f b g h i a.1 a.2.1 a.2.2.1 a.2.2.2.1 a.2.2.2.2 c.1 c.2.1 c.2.2 k).bind λe=>
 some ((aC e.1.1),(aC e.1.2))
def qbk(n:Nat)(a:DA)(c d:Int)(b:DA)(e:DB):Option Int:=
 some (aX .i64 (aC a) (aC b))
def Bd(n:Nat)(c:DO)(d:Int)(p:DJ)(q r:Int)(s:DB)(t a:Int)(e:DI)(f:DJ)(g:DK)(h:DC)(i:DD)(u:DN)(j:DA)(k l:Int)(m:DA)(o:DB)(b:DF):Option (((DO×Int×DJ×Int×Int×DB×Int×Int)×EAC×DN×EAF×DF)⊕(EAR×EAC×DN×EAF×DF)):=
 bif(decide (a<t))then
 (aM s a).bind λv=>
 (aM c d).bind λy=>
 (aM y a).bind λw=>
 bif(!w.1)then
 some (Sum.inl ((c,(d,(p,(q,(r,(s,(t,(aX .i64 a 1)))))))),((e,(f,(g,(h,i)))),(u,((j,(k,(l,(m,o)))),b)))))
 else
 (qat n e f g h i d a w.2).bind λx=>
 (qbk n j k l m o).bind λz=>
 bif((decide (0≤a))&&(decide (a<(((List.length b):Nat):Int))))then
 bif(Nat.ble ((Int.toNat a)+1) (List.length b))then
 some (Sum.inl ((c,(d,(p,(q,(r,(s,(t,(aX .i64 a 1)))))))),((e,(f,(g,(h,i)))),(u,((j,(k,(l,(m,o)))),(List.set b (Int.toNat a) (v.1,(v.2.1,(v.2.2,((bO .i64 (aX .i64 z (aC w.2)) x.1),x))))))))))
 else none
 else none
 else
 some (Sum.inr ((c,(p,(q,r))),((e,(f,(g,(h,i)))),(u,((j,(k,(l,(m,o)))),b)))))
def Kt(n:Nat)(s:(DO×Int×DJ×Int×Int×DB×Int×Int)×EAC×DN×EAF×DF):Option (EAR×EAC×DN×EAF×DF):=aY (λs=>Bd n s.1.1 s.1.2.1 s.1.2.2.1 s.1.2.2.2.1 s.1.2.2.2.2.1 s.1.2.2.2.2.2.1 s.1.2.2.2.2.2.2.1 s.1.2.2.2.2.2.2.2 s.2.1.1 s.2.1.2.1 s.2.1.2.2.1 s.2.1.2.2.2.1 s.2.1.2.2.2.2 s.2.2.1 s.2.2.2.1.1 s.2.2.2.1.2.1 s.2.2.2.1.2.2.1 s.2.2.2.1.2.2.2.1 s.2.2.2.1.2.2.2.2 s.2.2.2.2) n s
def B4(n:Nat)(l:DO)(d:DJ)(e c:Int)(f:DI)(g:DJ)(h:DK)(i:DC)(j:DD)(k:DN):Option ((EAR×EAC×DN)⊕(EAC×DN)):=
 bif(decide (c<e))then
 (aM d c).bind λb=>
 bif((((aC b.2.2.2.2)==(aC b.2.2.2.2))&&(decide (0≤(aC b.2.2.2.2))))&&(Nat.ble (Int.toNat (aC b.2.2.2.2)) 4294967296))then
 (Kt n ((l,(c,(d,(e,(c,(b.2.2.2.2,((aC b.2.2.2.2),0))))))),((f,(g,(h,(i,j)))),(k,(b,(List.replicate (Int.toNat (aC b.2.2.2.2)) (0,(0,(0,(0,(0,0))))))))))).bind λa=>
 bif(Nat.ble (List.length (a.2.2.1++(([]:List EAD)::([]:List (List EAD))))) 4294967296)then
 ((a.2.2.1++(([]:List EAD)::([]:List (List EAD))))[(List.length a.2.2.1)]?).bind λm=>
 some (Sum.inl ((a.1.1,(a.1.2.1,(a.1.2.2.1,(aX .i64 a.1.2.2.2 1)))),(a.2.1,(List.set (a.2.2.1++(([]:List EAD)::([]:List (List EAD)))) (List.length a.2.2.1) a.2.2.2.2))))
 else none
 else none
 else
 some (Sum.inr ((f,(g,(h,(i,j)))),k))
def FQ(n:Nat)(s:EAR×EAC×DN):Option (EAC×DN):=aY (λs=>B4 n s.1.1 s.1.2.1 s.1.2.2.1 s.1.2.2.2 s.2.1.1 s.2.1.2.1 s.2.1.2.2.1 s.2.1.2.2.2.1 s.2.1.2.2.2.2 s.2.2) n s
def Rf(n:Nat)(b:DI)(a:DJ)(c:DK)(d:DC)(e:DD)(f:DO):Option DN:=
 (FQ n ((f,(a,((aC a),0))),((b,(a,(c,(d,e)))),([]:List (List EAD))))).bind λg=>
 some g.2
def qbg(n:Nat)(b:DI)(c:DJ)(d:DK)(e:DC)(f:DD):Option (Int×DN):=
 (qam n b c d e f).bind λa=>
 bif(a.2.2.2 !=0)then
 some (a.2.2.2,([]:List (List EAD)))
 else
 (Rf n b c d e f a.1).bind λg=>
 some (0,g)
def qce(n:Nat)(e:DI)(c:DJ)(f:DK)(g:DC)(h:DD)(b:Int):Option Int:=
 bif(decide (b<0))then
 some 0
 else
 bif(decide (b≥(aC c)))then
 some 0
 else
 (aM c b).bind λa=>
 (qbk n a.1 a.2.1 a.2.2.1 a.2.2.2.1 a.2.2.2.2).bind λd=>
 some (aX .i64 d 8)
def qai(n:Nat):Option Bool:=
 (qbg n ([]:List (List EAA)) ((([]:List EAA),(1,(0,(((1,0)::([]:List EAA)),((0,(0,0))::((26,(0,0))::([]:List EAJ)))))))::([]:List ((List EAA)×Int×Int×(List EAA)×List EAJ))) ([]:List ((List EAA)×Int×Int)) (7::([]:DE)) ([]:DG)).bind λa=>
 bif(a.1==0)then
 bif((aC a.2)==1)then
 bif(decide (0<(((List.length a.2):Nat):Int)))then
 (a.2[0]?).bind λb=>
 bif((aC b)==2)then
 bif(decide (0<(((List.length a.2):Nat):Int)))then
 (a.2[0]?).bind λf=>
 bif(Nat.beq 0 (Int.toNat 0))then
 bif(decide (1<(((List.length b):Nat):Int)))then
 (b[1]?).bind λc=>
 bif(c.2.2.2.1==1)then
 bif(decide (0<(((List.length a.2):Nat):Int)))then
 (a.2[0]?).bind λg=>
 bif(Nat.beq 0 (Int.toNat 0))then
 bif(decide (1<(((List.length b):Nat):Int)))then
 (b[1]?).bind λd=>
 bif(d.2.2.2.2.1==1)then
 (qce n ([]:List (List EAA)) ((([]:List EAA),(1,(0,(((1,0)::([]:List EAA)),((0,(0,0))::((26,(0,0))::([]:List EAJ)))))))::([]:List ((List EAA)×Int×Int×(List EAA)×List EAJ))) ([]:List ((List EAA)×Int×Int)) (7::([]:DE)) ([]:DG) 0).bind λe=>
 some (e==9)
 else
 some false
 else none
 else none
 else none
 else
 some false
 else none
 else none
 else none
 else
 some false
 else none
 else
 some false
 else
 some false
def eX(n:Nat)(a b:Int)(f:DI)(g:DJ)(h:DK)(i:DC)(j:DD)(c k:DN):Option ((EAA×EAC×DN×DN)⊕(Int×EAC×EAK×DN×DF)):=
 bif((decide (0≤a))&&(decide (a<(((List.length c):Nat):Int))))then
 (c[(Int.toNat a)]?).bind λd=>
 bif(decide (b<(aC d)))then
 bif((decide (0≤a))&&(decide (a<(((List.length c):Nat):Int))))then
 (c[(Int.toNat a)]?).bind λm=>
 bif(Nat.beq (Int.toNat a) (Int.toNat a))then
 bif((decide (0≤b))&&(decide (b<(((List.length d):Nat):Int))))then
 (d[(Int.toNat b)]?).bind λl=>
 bif((decide (0≤b))&&(decide (b<(((List.length d):Nat):Int))))then
 (d[(Int.toNat b)]?).bind λe=>
 (c[(Int.toNat a)]?).bind λo=>
 some (Sum.inl ((a,(aX .i64 b 1)),((f,(g,(h,(i,j)))),((List.set c (Int.toNat a) (List.set d (Int.toNat b) (e.1,(e.2.1,(e.2.2.1,((aX .i64 l.2.2.2.1 1),e.2.2.2.2)))))),k))))
 else none
 else none
 else none
 else none
 else
 some (Sum.inr (a,((f,(g,(h,(i,j)))),((c,(Int.toNat a)),(k,d)))))
 else none
def jJ(n:Nat)(s:EAA×EAC×DN×DN):Option (Int×EAC×EAK×DN×DF):=aY (λs=>eX n s.1.1 s.1.2 s.2.1.1 s.2.1.2.1 s.2.1.2.2.1 s.2.1.2.2.2.1 s.2.1.2.2.2.2 s.2.2.1 s.2.2.2) n s
def eY(n:Nat)(b:Int)(f:DI)(g:DJ)(h:DK)(i:DC)(j:DD)(c d:DN):Option ((Int×EAC×DN×DN)⊕(EAC×DN×DN)):=
 bif(decide (b<(aC c)))then
 bif((decide (0≤b))&&(decide (b<(((List.length c):Nat):Int))))then
 (c[(Int.toNat b)]?).bind λe=>
 bif(Nat.ble (List.length e) 4294967296)then
 bif(Nat.ble (List.length (d++(([]:List EAD)::([]:List (List EAD))))) 4294967296)then
 (c[(Int.toNat b)]?).bind λk=>
 ((d++(([]:List EAD)::([]:List (List EAD))))[(List.length d)]?).bind λl=>
 (jJ n ((b,0),((f,(g,(h,(i,j)))),((List.set c (Int.toNat b) e),(List.set (d++(([]:List EAD)::([]:List (List EAD)))) (List.length d) e))))).bind λa=>
 (a.2.2.1.1[a.2.2.1.2]?).bind λm=>
 some (Sum.inl ((aX .i64 a.1 1),(a.2.1,((List.set a.2.2.1.1 a.2.2.1.2 a.2.2.2.2),a.2.2.2.1))))
 else none
 else none
 else none
 else
 some (Sum.inr ((f,(g,(h,(i,j)))),(c,d)))
def jH(n:Nat)(s:Int×EAC×DN×DN):Option (EAC×DN×DN):=aY (λs=>eY n s.1 s.2.1.1 s.2.1.2.1 s.2.1.2.2.1 s.2.1.2.2.2.1 s.2.1.2.2.2.2 s.2.2.1 s.2.2.2) n s
def gE(n:Nat)(a c:Int)(e b:DN):Option ((EAA×DN×DN)⊕(EAV⊕(Int×DN×EAK×DF))):=
 bif((decide (0≤a))&&(decide (a<(((List.length b):Nat):Int))))then
 (b[(Int.toNat a)]?).bind λd=>
 bif(decide (c<(aC d)))then
 (b[(Int.toNat a)]?).bind λj=>
 bif(decide (0≤a))then
 ((List.set b (Int.toNat a) d)[(Int.toNat a)]?).bind λh=>
 bif(decide (0≤a))then
 (e[(Int.toNat a)]?).bind λi=>
 bif((decide (0≤a))&&(decide (a<(((List.length (List.set b (Int.toNat a) d)):Nat):Int))))then
 ((List.set b (Int.toNat a) d)[(Int.toNat a)]?).bind λk=>
 bif(Nat.beq (Int.toNat a) (Int.toNat a))then
 bif((decide (0≤c))&&(decide (c<(((List.length h):Nat):Int))))then
 (h[(Int.toNat c)]?).bind λf=>
 bif((decide (0≤a))&&(decide (a<(((List.length e):Nat):Int))))then
 (e[(Int.toNat a)]?).bind λl=>
 bif(Nat.beq (Int.toNat a) (Int.toNat a))then
 bif((decide (0≤c))&&(decide (c<(((List.length i):Nat):Int))))then
 (i[(Int.toNat c)]?).bind λg=>
 bif(!((f.1==g.1)&&((f.2.1==g.2.1)&&((f.2.2.1==g.2.2.1)&&((f.2.2.2.1==g.2.2.2.1)&&((f.2.2.2.2.1==g.2.2.2.2.1)&&(f.2.2.2.2.2==g.2.2.2.2.2)))))))then
 some (Sum.inr (Sum.inl (false,((e,(Int.toNat a)),(((List.set b (Int.toNat a) d),(Int.toNat a)),(h,i))))))
 else
 (e[(Int.toNat a)]?).bind λm=>
 ((List.set b (Int.toNat a) d)[(Int.toNat a)]?).bind λo=>
 some (Sum.inl ((a,(aX .i64 c 1)),((List.set e (Int.toNat a) i),(List.set (List.set b (Int.toNat a) d) (Int.toNat a) h))))
 else none
 else none
 else none
 else none
 else none
 else none
 else none
 else none
 else
 some (Sum.inr (Sum.inr (a,(e,((b,(Int.toNat a)),d)))))
 else none
def mV(n:Nat)(s:EAA×DN×DN):Option (EAV⊕(Int×DN×EAK×DF)):=aY (λs=>gE n s.1.1 s.1.2 s.2.1 s.2.2) n s
def gD(n:Nat)(a:Int)(c b:DN):Option ((Int×DN×DN)⊕(EAV⊕(EAV⊕(DN×DN)))):=
 bif(decide (a<(aC b)))then
 bif(decide (0≤a))then
 (b[(Int.toNat a)]?).bind λe=>
 bif(decide (0≤a))then
 (c[(Int.toNat a)]?).bind λf=>
 bif((decide (0≤a))&&(decide (a<(((List.length b):Nat):Int))))then
 (b[(Int.toNat a)]?).bind λi=>
 bif(Nat.beq (Int.toNat a) (Int.toNat a))then
 bif((decide (0≤a))&&(decide (a<(((List.length c):Nat):Int))))then
 (c[(Int.toNat a)]?).bind λj=>
 bif(Nat.beq (Int.toNat a) (Int.toNat a))then
 bif((aC e) !=(aC f))then
 some (Sum.inr (Sum.inl (false,((c,(Int.toNat a)),((b,(Int.toNat a)),(e,f))))))
 else
 (c[(Int.toNat a)]?).bind λk=>
 (b[(Int.toNat a)]?).bind λl=>
 (mV n ((a,0),((List.set c (Int.toNat a) f),(List.set b (Int.toNat a) e)))).bind λg=>
 Sum.rec (λh=>
 some (Sum.inr (Sum.inr (Sum.inl h)))) (λd=>
 (d.2.2.1.1[d.2.2.1.2]?).bind λm=>
 some (Sum.inl ((aX .i64 d.1 1),(d.2.1,(List.set d.2.2.1.1 d.2.2.1.2 d.2.2.2))))) g
 else none
 else none
 else none
 else none
 else none
 else none
 else
 some (Sum.inr (Sum.inr (Sum.inr (c,b))))
def mZ(n:Nat)(s:Int×DN×DN):Option (EAV⊕(EAV⊕(DN×DN))):=aY (λs=>gD n s.1 s.2.1 s.2.2) n s
def nF(n:Nat)(b:DI)(c:DJ)(d:DK)(e:DC)(f:DD):Option Bool:=
 (qas n b c d e f).bind λi=>
 bif(!i)then
 (qai n).bind λj=>
 some j
 else
 (qbg n b c d e f).bind λh=>
 bif(h.1 !=0)then
 (qai n).bind λk=>
 some k
 else
 (jH n (0,((b,(c,(d,(e,f)))),(h.2,([]:List (List EAD)))))).bind λa=>
 (qbg n a.1.1 a.1.2.1 a.1.2.2.1 a.1.2.2.2.1 a.1.2.2.2.2).bind λg=>
 bif(g.1 !=0)then
 some false
 else
 bif((aC g.2) !=(aC a.2.2))then
 some false
 else
 (mZ n (0,(a.2.2,g.2))).bind λl=>
 Sum.rec (λm=>
 some m.1) (λo=>
 Sum.rec (λp=>
 some p.1) (λr=>
 (qai n).bind λq=>
 some q) o) l
def s8(n:Nat)(a:DA)(e f:Int)(c:DA)(g:DB)(b:Int):Option EAA:=
 bif(Nat.ble (List.length a) 4294967296)then
 bif(Nat.ble (List.length (a++c)) 4294967296)then
 bif(decide (b<0))then
 some (8,0)
 else
 bif(decide (b≥(aC (a++c))))then
 some (8,0)
 else
 bif((decide (0≤b))&&(decide (b<(((List.length (a++c)):Nat):Int))))then
 ((a++c)[(Int.toNat b)]?).bind λd=>
 some d
 else none
 else none
 else none
def aI(n:Nat)(d:DI)(g:DJ)(h:DK)(ad:DC)(ae:DD)(i:DA)(e f:Int)(j:DA)(k:DB)(b c l:Int)(a:DA):Option (DA×DA×Bool):=
 bif(b==0)then
 some (([]:List EAA),(((1,0)::([]:List EAA)),true))
 else
 bif(b==1)then
 some (([]:List EAA),(((2,0)::([]:List EAA)),true))
 else
 bif(b==2)then
 some (([]:List EAA),(((6,0)::([]:List EAA)),true))
 else
 bif(b==3)then
 (s8 n i e f j k c).bind λo=>
 some (([]:List EAA),((o::([]:List EAA)),true))
 else
 bif(b==4)then
 (s8 n i e f j k c).bind λp=>
 some ((p::([]:List EAA)),(([]:List EAA),true))
 else
 bif(b==5)then
 some (((8,0)::([]:List EAA)),(([]:List EAA),true))
 else
 bif(b==6)then
 bif(decide ((aC a)<1))then
 some (([]:List EAA),(([]:List EAA),false))
 else
 bif((decide (0≤(bO .i64 (aC a) 1)))&&(decide ((bO .i64 (aC a) 1)≤(((List.length a):Nat):Int))))then
 (aM a (bO .i64 (aC a) 1)).bind λq=>
 (aM a (bO .i64 (aC a) 1)).bind λr=>
 some ((List.drop (Int.toNat (bO .i64 (aC a) 1)) (List.take (List.length a) a)),((q::(r::([]:List EAA))),true))
 else none
 else
 bif(b==7)then
 bif(decide ((aC a)<2))then
 some (([]:List EAA),(([]:List EAA),false))
 else
 bif((decide (0≤(bO .i64 (aC a) 2)))&&(decide ((bO .i64 (aC a) 2)≤(((List.length a):Nat):Int))))then
 (aM a (bO .i64 (aC a) 1)).bind λs=>
 (aM a (bO .i64 (aC a) 2)).bind λt=>
 some ((List.drop (Int.toNat (bO .i64 (aC a) 2)) (List.take (List.length a) a)),((s::(t::([]:List EAA))),true))
 else none
 else
 bif(b==22)then
 some (((1,0)::((1,0)::([]:List EAA))),(((1,0)::((1,0)::([]:List EAA))),true))
 else
 bif(b==23)then
 some (([]:List EAA),(([]:List EAA),true))
 else
 bif(b==24)then
 some (((1,0)::([]:List EAA)),(([]:List EAA),true))
 else
 bif(b==25)then
 (aM g c).bind λu=>
 (aM g c).bind λm=>
 some (u.1,(((m.2.1,m.2.2.1)::([]:List EAA)),true))
 else
 bif(b==26)then
 some (((e,f)::([]:List EAA)),(([]:List EAA),true))
 else
 bif(b==27)then
 (aM h c).bind λv=>
 (aM h c).bind λw=>
 some (v.1,((w.2::([]:List EAA)),true))
 else
 bif(b==28)then
 (aM d c).bind λx=>
 some (x,(((4,c)::([]:List EAA)),true))
 else
 bif(b==29)then
 (aM d c).bind λy=>
 (aM y l).bind λz=>
 some (((4,c)::([]:List EAA)),((z::([]:List EAA)),true))
 else
 bif(b==30)then
 (aM d c).bind λaa=>
 (aM aa l).bind λab=>
 some (((4,c)::(ab::([]:List EAA))),(([]:List EAA),true))
 else
 bif(b==31)then
 some (((1,0)::([]:List EAA)),(((3,0)::([]:List EAA)),true))
 else
 bif(b==32)then
 some (((3,0)::((1,0)::([]:List EAA))),(((1,0)::([]:List EAA)),true))
 else
 bif(b==33)then
 some (((3,0)::((1,0)::((1,0)::([]:List EAA)))),(([]:List EAA),true))
 else
 bif(b==34)then
 some (((3,0)::([]:List EAA)),(((1,0)::([]:List EAA)),true))
 else
 bif(b==35)then
 some (((1,0)::([]:List EAA)),(((2,0)::([]:List EAA)),true))
 else
 bif(b==36)then
 some (((2,0)::((1,0)::([]:List EAA))),(((1,0)::([]:List EAA)),true))
 else
 bif(b==37)then
 some (((2,0)::((1,0)::((1,0)::([]:List EAA)))),(([]:List EAA),true))
 else
 bif(b==38)then
 some (((2,0)::([]:List EAA)),(((1,0)::([]:List EAA)),true))
 else
 bif(b==39)then
 some (((7,0)::([]:List EAA)),(((1,0)::([]:List EAA)),true))
 else
 bif(b==40)then
 some (((7,0)::((7,0)::([]:List EAA))),(((1,0)::([]:List EAA)),true))
 else
 bif(b==41)then
 bif(decide ((aC a)<1))then
 some (([]:List EAA),(([]:List EAA),false))
 else
 (aM a (bO .i64 (aC a) 1)).bind λac=>
 bif(ac.1 !=5)then
 some (([]:List EAA),(([]:List EAA),false))
 else
 bif((decide (0≤(bO .i64 (aC a) 1)))&&(decide ((bO .i64 (aC a) 1)≤(((List.length a):Nat):Int))))then
 some ((List.drop (Int.toNat (bO .i64 (aC a) 1)) (List.take (List.length a) a)),(([]:List EAA),true))
 else none
 else
 some (((1,0)::((1,0)::([]:List EAA))),(((1,0)::([]:List EAA)),true))
def Bt(n:Nat)(a b:Int):Option Bool:=
 bif(a==2)then
 some true
 else
 bif(a==3)then
 some true
 else
 bif(a==4)then
 some true
 else
 bif(a==6)then
 some true
 else
 some (a==7)
def Hf(n:Nat)(b c a d:Int):Option Bool:=
 bif((b==a)&&(c==d))then
 some true
 else
 bif(a==8)then
 some true
 else
 (Bt n b c).bind λe=>
 bif e then
 (Bt n a d).bind λf=>
 bif f then
 bif(b==6)then
 some true
 else
 some (a==7)
 else
 some false
 else
 some false
def iV(n:Nat)(m:Int)(b c o:DA)(d a:Int)(e:DA)(f g:Int)(h:DA)(i:DB)(j k l:Int):Option (((Int×DA×DA×DA×Int×Int)×EAF×Int×Int×Int)⊕((EAQ×EAF×Int×Int×Int)⊕((Int×DA×DA×Int)×EAF×Int×Int×Int))):=
 bif(decide (a<(aC c)))then
 (aM b (aX .i64 d a)).bind λp=>
 (aM c a).bind λq=>
 (Hf n p.1 p.2 q.1 q.2).bind λr=>
 bif(!r)then
 some (Sum.inr (Sum.inl ((([]:List EAA),(([]:DE),4)),((e,(f,(g,(h,i)))),(j,(k,l))))))
 else
 some (Sum.inl ((m,(b,(c,(o,(d,(aX .i64 a 1)))))),((e,(f,(g,(h,i)))),(j,(k,l)))))
 else
 some (Sum.inr (Sum.inr ((m,(b,(o,d))),((e,(f,(g,(h,i)))),(j,(k,l))))))
def rQ(n:Nat)(s:(Int×DA×DA×DA×Int×Int)×EAF×Int×Int×Int):Option ((EAQ×EAF×Int×Int×Int)⊕((Int×DA×DA×Int)×EAF×Int×Int×Int)):=aY (λs=>iV n s.1.1 s.1.2.1 s.1.2.2.1 s.1.2.2.2.1 s.1.2.2.2.2.1 s.1.2.2.2.2.2 s.2.1.1 s.2.1.2.1 s.2.1.2.2.1 s.2.1.2.2.2.1 s.2.1.2.2.2.2 s.2.2.1 s.2.2.2.1 s.2.2.2.2) n s
def y7(n:Nat)(h:DI)(f:DJ)(i:DK)(j:DC)(k:DD)(l g:Int)(d:DA):Option EAQ:=
 (aM f l).bind λb=>
 (aM b.2.2.2.2 g).bind λe=>
 (aI n h f i j k b.1 b.2.1 b.2.2.1 b.2.2.2.1 b.2.2.2.2 e.1 e.2.1 e.2.2 d).bind λc=>
 bif(!c.2.2)then
 some (([]:List EAA),(([]:DE),4))
 else
 bif(decide ((bO .i64 (aC d) (aC c.1))<0))then
 some (([]:List EAA),(([]:DE),4))
 else
 bif(decide ((aX .i64 (bO .i64 (aC d) (aC c.1)) (aC c.2.1))>8))then
 some (([]:List EAA),(([]:DE),4))
 else
 (rQ n ((g,(d,(c.1,(c.2.1,((bO .i64 (aC d) (aC c.1)),0))))),(b,e))).bind λm=>
 Sum.rec (λo=>
 some o.1) (λa=>
 bif((decide (0≤a.1.2.2.2))&&(decide (a.1.2.2.2≤(((List.length a.1.2.1):Nat):Int))))then
 bif(Nat.ble (List.length (List.take (Int.toNat a.1.2.2.2) a.1.2.1)) 4294967296)then
 bif(Nat.ble (List.length ((List.take (Int.toNat a.1.2.2.2) a.1.2.1)++a.1.2.2.1)) 4294967296)then
 bif(a.2.2.1==26)then
 some (((List.take (Int.toNat a.1.2.2.2) a.1.2.1)++a.1.2.2.1),(([]:DE),0))
 else
 bif(a.2.2.1==23)then
 some (((List.take (Int.toNat a.1.2.2.2) a.1.2.1)++a.1.2.2.1),((a.2.2.2.1::([]:DE)),0))
 else
 bif(decide ((aX .i64 a.1.1 1)≥(aC a.2.1.2.2.2.2)))then
 some (([]:List EAA),(([]:DE),1))
 else
 bif(a.2.2.1==24)then
 some (((List.take (Int.toNat a.1.2.2.2) a.1.2.1)++a.1.2.2.1),(((aX .i64 a.1.1 1)::(a.2.2.2.1::([]:DE))),0))
 else
 some (((List.take (Int.toNat a.1.2.2.2) a.1.2.1)++a.1.2.2.1),(((aX .i64 a.1.1 1)::([]:DE)),0))
 else none
 else none
 else none) m
def n6(n:Nat)(c:Int->Option DC)(a:Int):Option DC:=
 bif(decide (a<128))then
 some ((jT .u8 a)::([]:DE))
 else
 (c (T0 .u64 a 128)).bind λb=>
 bif(Nat.ble (List.length (((jT .u8 (aX .u64 128 (S8 a 128)))::([]:DE))++b)) 4294967296)then
 some (((jT .u8 (aX .u64 128 (S8 a 128)))::([]:DE))++b)
 else none
def rN(n d:Nat):Int->Option DC:=Nat.rec (λ_=>none) (λ_ ih a=>n6 n ih a) d
def KY(n:Nat)(a:Int):Option DC:=rN n n a
def n9(n:Nat)(c:DI)(h:DJ)(i:DK)(j:DC)(k:DD)(d:DA)(o p:Int)(e:DA)(f:DB)(b a g:Int):Option Bool:=
 bif(b==0)then
 some (decide (a<(aC j)))
 else
 bif(b==1)then
 some (decide (a<(aC k)))
 else
 bif(b==3)then
 some (decide (a<(aX .i64 (aC d) (aC e))))
 else
 bif(b==4)then
 some (decide (a<(aX .i64 (aC d) (aC e))))
 else
 bif(b==23)then
 some (decide (a<(aC f)))
 else
 bif(b==24)then
 some (decide (a<(aC f)))
 else
 bif(b==25)then
 some (decide (a<(aC h)))
 else
 bif(b==27)then
 some (decide (a<(aC i)))
 else
 bif(b==28)then
 some (decide (a<(aC c)))
 else
 bif(b==29)then
 bif(decide (a<(aC c)))then
 (aM c a).bind λl=>
 some (decide (g<(aC l)))
 else
 some false
 else
 bif(b==30)then
 bif(decide (a<(aC c)))then
 (aM c a).bind λm=>
 some (decide (g<(aC m)))
 else
 some false
 else
 some true
end
end Sx
