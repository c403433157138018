import Derived.Test.YtjjjbgicidhpfaaDoorLib7
import Derived.KernelRfl
open Go Go.Ab
set_option linter.unusedVariables false
set_option maxRecDepth 20000
namespace Sx
noncomputable section
abbrev EAB:=Int×Int
abbrev DA:=List EAB
abbrev DI:=List DA
abbrev EAI:=Int×Int×Int
abbrev DB:=List EAI
abbrev EAD:=DA×Int×Int×DA×DB
abbrev DJ:=List EAD
abbrev EAT:=DA×Int×Int
abbrev DK:=List EAT
abbrev DC:=List Int
abbrev DD:=List ByteArray
abbrev EAA:=DI×DJ×DK×DC×DD
abbrev EAC:=DI×DJ×DK×DC×DD×Int×Nat×Nat
abbrev EAE:=DI×DJ×DK×DC×DD×Int
abbrev EAF:=Int×Int×Int×Int×Int×Int
abbrev EAG:=Int×DI×DJ×DK×DC×DD
abbrev EAH:=DI×Int×Int
abbrev EAJ:=Int×Bool×Int
abbrev EAK:=Nat×Nat
abbrev EAL:=Bool×DI×DJ×DK×DC×DD
abbrev EAM:=Int×Bool
abbrev EAN:=Bool×Int
abbrev EAO:=Int⊕Unit
abbrev EAP:=Int×Nat×Bool×DA×Int×Int
abbrev EAQ:=DJ×Int×Int
abbrev DG:=List EAF
abbrev DN:=List DG
abbrev DM:=List (Bool×DA)
abbrev DO:=List DM
abbrev EAR:=DN×DO×Int×Int
abbrev EAS:=DN×DO×Int
abbrev EAU:=Bool⊕Unit
abbrev EAV:=DO×Bool
abbrev EAW:=DA×DC×Int
abbrev EAX:=DO×DO×Int
abbrev EAY:=DC×Bool
abbrev EAZ:=DO×Int×DM×Int
abbrev EBA:=DO×DJ×Int×Int
abbrev EBB:=DK×Int×Int
abbrev EBC:=Int×EAA×DA×Int×Int×DA×DB
abbrev EBD:=EAB×EAC×DM×DC
abbrev EBE:=Bool×EAA×EAF×Int×Int×Int×Int×Int×Int
abbrev EBF:=Bool×EAA×EAD×Int×Int×Int×Int×Int×Int
abbrev EBG:=EAY×EAA×DC×DC×DA×Int×Int×DA×DB
abbrev EBH:=Bool×EAA×Int×Int×Int×Int×Int×Int
abbrev EBI:=EAV×EAA×DO×DM
abbrev EBJ:=Bool×EAA×EAD×EAF×Int×Int×Int
abbrev EBK:=Bool×EAA×DA×Int×Int×DA×DB
abbrev EBL:=EAK×DI×Int×Int
abbrev EBM:=EAB×DI×DJ×DK×DC×DD
abbrev EBN:=EAS×DI×DJ×DK×DC×DD
abbrev EBO:=Bool×EAC×DM×DC
abbrev EBP:=EAC×DM×DC
abbrev EBQ:=EAZ×DI×DJ×DK×DC×DD
abbrev EBR:=EAR×DI×DJ×DK×DC×DD
abbrev EBS:=EAB⊕Int
abbrev EBT:=EAK×DA
abbrev EBU:=EAB×EAE×DM
abbrev DE:=List Int
abbrev DF:=List ByteArray
abbrev DH:=List (Nat×Int×Int)
abbrev DL:=List DC
def qaz_B0(n:Nat)(c b:Int)(a:DI)(d:DJ)(e:DK)(f:DC)(g:DD):Option (EBM⊕EAG):=
 bif(decide (b<(aC a)))then
 (aF a b).bind λh=>
 some (Sum.inl (((aK .i64 c (aC h)),(aK .i64 b 1)),(a,(d,(e,(f,g))))))
 else
 some (Sum.inr (c,(a,(d,(e,(f,g))))))
def qaz_W0(n:Nat)(s:EAB×DI×DJ×DK×DC×DD):Option EAG:=aM (λs=>qaz_B0 n s.1.1 s.1.2 s.2.1 s.2.2.1 s.2.2.2.1 s.2.2.2.2.1 s.2.2.2.2.2) n s
def qaz_B2(n:Nat)(c b:Int)(d:DI)(a:DJ)(e:DK)(f:DC)(g:DD):Option (EBM⊕EAG):=
 bif(decide (b<(aC a)))then
 (aF a b).bind λh=>
 (aF a b).bind λi=>
 (aF a b).bind λj=>
 some (Sum.inl (((aK .i64 (aK .i64 (aK .i64 c (aC h.1)) (aC i.2.2.2.1)) (aC j.2.2.2.2)),(aK .i64 b 1)),(d,(a,(e,(f,g))))))
 else
 some (Sum.inr (c,(d,(a,(e,(f,g))))))
def qaz_W2(n:Nat)(s:EAB×DI×DJ×DK×DC×DD):Option EAG:=aM (λs=>qaz_B2 n s.1.1 s.1.2 s.2.1 s.2.2.1 s.2.2.2.1 s.2.2.2.2.1 s.2.2.2.2.2) n s
def qaz_B4(n:Nat)(c b:Int)(d:DI)(e:DJ)(a:DK)(f:DC)(g:DD):Option (EBM⊕EAG):=
 bif(decide (b<(aC a)))then
 (aF a b).bind λh=>
 some (Sum.inl (((aK .i64 c (aC h.1)),(aK .i64 b 1)),(d,(e,(a,(f,g))))))
 else
 some (Sum.inr (c,(d,(e,(a,(f,g))))))
def qaz_W4(n:Nat)(s:EAB×DI×DJ×DK×DC×DD):Option EAG:=aM (λs=>qaz_B4 n s.1.1 s.1.2 s.2.1 s.2.2.1 s.2.2.2.1 s.2.2.2.2.1 s.2.2.2.2.2) n s
def qaz_B6(n:Nat)(c b:Int)(d:DI)(e:DJ)(f:DK)(g:DC)(a:DD):Option (EBM⊕EAG):=
 bif(decide (b<(aC a)))then
 (aF a b).bind λh=>
 some (Sum.inl (((aK .i64 c (CL h)),(aK .i64 b 1)),(d,(e,(f,(g,a))))))
 else
 some (Sum.inr (c,(d,(e,(f,(g,a))))))
def qaz_W6(n:Nat)(s:EAB×DI×DJ×DK×DC×DD):Option EAG:=aM (λs=>qaz_B6 n s.1.1 s.1.2 s.2.1 s.2.2.1 s.2.2.2.1 s.2.2.2.2.1 s.2.2.2.2.2) n s
def qaz(n:Nat)(a:DI)(b:DJ)(c:DK)(d:DC)(e:DD):Option Bool:=
 bif(decide ((aK .i64 (aK .i64 (aK .i64 (aK .i64 (aC a) (aC b)) (aC c)) (aC d)) (aC e))>200))then
 some false
 else
 (qaz_W0 n (((aK .i64 (aK .i64 (aK .i64 (aK .i64 (aC a) (aC b)) (aC c)) (aC d)) (aC e)),0),(a,(b,(c,(d,e)))))).bind λf=>
 (qaz_W2 n ((f.1,0),f.2)).bind λg=>
 (qaz_W4 n ((g.1,0),g.2)).bind λh=>
 (qaz_W6 n ((h.1,0),h.2)).bind λi=>
 some (decide (i.1<3000))
def qcn(n:Nat)(b a c:Int):Option Bool:=
 bif(b==1)then
 some (a==0)
 else
 bif(b==2)then
 some (a==0)
 else
 bif(b==3)then
 some (a==0)
 else
 bif(b==7)then
 some (a==0)
 else
 bif(b==4)then
 bif(decide (a≥0))then
 some (decide (a<c))
 else
 some false
 else
 bif(b==5)then
 bif(decide (a≥0))then
 some (decide (a<4))
 else
 some false
 else
 some false
def qan(n:Nat)(b c a:Int):Option EAN:=
 (qcn n b c a).bind λd=>
 some ((!d),a)
def qah_B0(n:Nat)(c:DA)(d a e:Int):Option ((EAT×Int)⊕EBS):=
 bif(decide (a<d))then
 (aF c a).bind λf=>
 (qan n f.1 f.2 e).bind λb=>
 bif b.1 then
 some (Sum.inr (Sum.inl (a,b.2)))
 else
 some (Sum.inl ((c,(d,(aK .i64 a 1))),b.2))
 else
 some (Sum.inr (Sum.inr e))
def qah_W0(n:Nat)(s:EAT×Int):Option EBS:=aM (λs=>qah_B0 n s.1.1 s.1.2.1 s.1.2.2 s.2) n s
def qah(n:Nat)(a:DA)(b:Int):Option EAB:=
 (qah_W0 n ((a,((aC a),0)),b)).bind λc=>
 Sum.rec (λd=>
 some d) (λe=>
 some ((-1),e)) c
def qs(n:Nat)(b:DA)(c:Int):Option EAN:=
 (qah n b c).bind λa=>
 some ((decide (a.1≥0)),a.2)
def qax(n:Nat)(a:DA)(b c:Int):Option Bool:=
 bif(decide ((aC a)≤c))then
 (qs n a b).bind λd=>
 some (!d.1)
 else
 some false
def qao(n:Nat)(b:DA)(a:Int):Option EAN:=
 (qax n b a 6).bind λc=>
 some ((!c),a)
def qw_B0(n:Nat)(c:DI)(d a e:Int):Option ((EAH×Int)⊕EBS):=
 bif(decide (a<d))then
 (aF c a).bind λf=>
 (qao n f e).bind λb=>
 bif b.1 then
 some (Sum.inr (Sum.inl (a,b.2)))
 else
 some (Sum.inl ((c,(d,(aK .i64 a 1))),b.2))
 else
 some (Sum.inr (Sum.inr e))
def qw_W0(n:Nat)(s:EAH×Int):Option EBS:=aM (λs=>qw_B0 n s.1.1 s.1.2.1 s.1.2.2 s.2) n s
def qw(n:Nat)(a:DI)(b:Int):Option EAB:=
 (qw_W0 n ((a,((aC a),0)),b)).bind λc=>
 Sum.rec (λd=>
 some d) (λe=>
 some ((-1),e)) c
def qg(n:Nat)(b:DI)(c:Int):Option EAN:=
 (qw n b c).bind λa=>
 some ((decide (a.1≥0)),a.2)
def qcj(n:Nat)(a:Int):Option Int:=
 bif(a==29)then
 some 2
 else
 bif(a==30)then
 some 2
 else
 bif(a==0)then
 some 1
 else
 bif(a==1)then
 some 1
 else
 bif(a==3)then
 some 1
 else
 bif(a==4)then
 some 1
 else
 bif(a==23)then
 some 1
 else
 bif(a==24)then
 some 1
 else
 bif(a==25)then
 some 1
 else
 bif(a==27)then
 some 1
 else
 bif(a==28)then
 some 1
 else
 bif(decide (a<0))then
 some (-1)
 else
 bif(decide (a≥42))then
 some (-1)
 else
 some 0
def qda(n:Nat)(a:Int)(b:Bool):Option Bool:=
 bif(decide (a≥0))then
 bif(decide (a≤255))then
 bif b then
 some true
 else
 some (a==0)
 else
 some false
 else
 some false
def qdd_B0(n:Nat)(a:Int)(b:DC):Option ((Int×DC)⊕(Int×DC)):=
 bif(decide (a≥128))then
 bif(Nat.ble (List.length (b++((WN .u8 (bJ .u8 a) 128)::([]:DE)))) 4294967296)then
 some (Sum.inl ((SK .u64 a 7),(b++((WN .u8 (bJ .u8 a) 128)::([]:DE)))))
 else none
 else
 some (Sum.inr (a,b))
def qdd_W0(n:Nat)(s:Int×DC):Option (Int×DC):=aM (λs=>qdd_B0 n s.1 s.2) n s
def qdd(n:Nat)(b:Int):Option DC:=
 (qdd_W0 n (b,([]:DE))).bind λa=>
 bif(Nat.ble (List.length (a.2++((bJ .u8 a.1)::([]:DE)))) 4294967296)then
 some (a.2++((bJ .u8 a.1)::([]:DE)))
 else none
def qcw_B0(n:Nat)(b:Nat×Nat)(f a:Int)(c:DC)(d e:Int):Option (((EAK×Int×Int)×DC×Int×Int)⊕(DC×Int×Int)):=
 bif(decide (a<f))then
 bif((decide (0≤a))&&(decide (a<((b.2:Nat):Int))))then
 bif(Nat.beq (((b.1+(Int.toNat a))*1)+0) 0)then
 (qdd n (bJ .u64 d)).bind λg=>
 bif(Nat.ble (List.length (c++g)) 4294967296)then
 some (Sum.inl ((b,(f,(aK .i64 a 1))),((c++g),(d,e))))
 else none
 else
 bif(Nat.beq (((b.1+(Int.toNat a))*1)+0) 1)then
 (qdd n (bJ .u64 e)).bind λh=>
 bif(Nat.ble (List.length (c++h)) 4294967296)then
 some (Sum.inl ((b,(f,(aK .i64 a 1))),((c++h),(d,e))))
 else none
 else none
 else none
 else
 some (Sum.inr (c,(d,e)))
def qcw_W0(n:Nat)(s:(EAK×Int×Int)×DC×Int×Int):Option (DC×Int×Int):=aM (λs=>qcw_B0 n s.1.1 s.1.2.1 s.1.2.2 s.2.1 s.2.2.1 s.2.2.2) n s
def qcw(n:Nat)(b c d:Int):Option DC:=
 (qcj n b).bind λa=>
 bif(decide (a<0))then
 some ([]:DE)
 else
 (qda n c (decide (a>0))).bind λe=>
 bif(!e)then
 some ([]:DE)
 else
 (qda n d (decide (a>1))).bind λf=>
 bif(!f)then
 some ([]:DE)
 else
 bif((decide (0≤a))&&(decide (a≤2)))then
 (qcw_W0 n (((0,((Int.toNat a)-0)),(((((Int.toNat a)-0):Nat):Int),0)),(((bJ .u8 b)::([]:DE)),(c,d)))).bind λg=>
 some g.1
 else none
def qz(n:Nat)(a b c:Int):Option Bool:=
 (qcw n a b c).bind λd=>
 some ((aC d)==0)
def qaa_B0(n:Nat)(c:DB)(d a:Int):Option ((DB×Int×Int)⊕EAO):=
 bif(decide (a<d))then
 (aF c a).bind λb=>
 (qz n b.1 b.2.1 b.2.2).bind λe=>
 bif e then
 some (Sum.inr (Sum.inl a))
 else
 some (Sum.inl (c,(d,(aK .i64 a 1))))
 else
 some (Sum.inr (Sum.inr ()))
def qaa_W0(n:Nat)(s:DB×Int×Int):Option EAO:=aM (λs=>qaa_B0 n s.1 s.2.1 s.2.2) n s
def qaa(n:Nat)(a:DB):Option Int:=
 (qaa_W0 n (a,((aC a),0))).bind λb=>
 Sum.rec (λc=>
 some c) (λd=>
 some (-1)) b
def ql(n:Nat)(a:DB):Option Bool:=
 (qaa n a).bind λb=>
 some (decide (b≥0))
def qae(n:Nat)(c:DA)(d e:Int)(f:DA)(a:DB)(b:Int):Option Bool:=
 (qax n c b 4).bind λg=>
 bif g then
 (qcn n d e b).bind λh=>
 bif h then
 (qax n f b (bY .i64 8 (aC c))).bind λi=>
 bif i then
 bif(decide ((aC a)≥1))then
 bif(decide ((aC a)≤64))then
 (ql n a).bind λj=>
 some (!j)
 else
 some false
 else
 some false
 else
 some false
 else
 some false
 else
 some false
def qap(n:Nat)(b:DA)(c d:Int)(e:DA)(f:DB)(a:Int):Option EAN:=
 (qae n b c d e f a).bind λg=>
 some ((!g),a)
def qab_B0(n:Nat)(d:DJ)(e b f:Int):Option ((EAQ×Int)⊕EBS):=
 bif(decide (b<e))then
 (aF d b).bind λa=>
 (qap n a.1 a.2.1 a.2.2.1 a.2.2.2.1 a.2.2.2.2 f).bind λc=>
 bif c.1 then
 some (Sum.inr (Sum.inl (b,c.2)))
 else
 some (Sum.inl ((d,(e,(aK .i64 b 1))),c.2))
 else
 some (Sum.inr (Sum.inr f))
def qab_W0(n:Nat)(s:EAQ×Int):Option EBS:=aM (λs=>qab_B0 n s.1.1 s.1.2.1 s.1.2.2 s.2) n s
def qab(n:Nat)(a:DJ)(b:Int):Option EAB:=
 (qab_W0 n ((a,((aC a),0)),b)).bind λc=>
 Sum.rec (λd=>
 some d) (λe=>
 some ((-1),e)) c
def qp(n:Nat)(b:DJ)(c:Int):Option EAN:=
 (qab n b c).bind λa=>
 some ((decide (a.1≥0)),a.2)
def qar(n:Nat)(b:DA)(c d a:Int):Option EAN:=
 (qax n b a 4).bind λe=>
 bif(!e)then
 some (true,a)
 else
 (qcn n c d a).bind λf=>
 some ((!f),a)
def qy_B0(n:Nat)(d:DK)(e a f:Int):Option ((EBB×Int)⊕EBS):=
 bif(decide (a<e))then
 (aF d a).bind λb=>
 (qar n b.1 b.2.1 b.2.2 f).bind λc=>
 bif c.1 then
 some (Sum.inr (Sum.inl (a,c.2)))
 else
 some (Sum.inl ((d,(e,(aK .i64 a 1))),c.2))
 else
 some (Sum.inr (Sum.inr f))
def qy_W0(n:Nat)(s:EBB×Int):Option EBS:=aM (λs=>qy_B0 n s.1.1 s.1.2.1 s.1.2.2 s.2) n s
def qy(n:Nat)(a:DK)(b:Int):Option EAB:=
 (qy_W0 n ((a,((aC a),0)),b)).bind λc=>
 Sum.rec (λd=>
 some d) (λe=>
 some ((-1),e)) c
def qi(n:Nat)(b:DK)(c:Int):Option EAN:=
 (qy n b c).bind λa=>
 some ((decide (a.1≥0)),a.2)
def qas(n:Nat)(a:ByteArray):Option Bool:=
 some (decide ((CL a)>32))
def qu_B0(n:Nat)(b:DD)(c a:Int):Option ((DD×Int×Int)⊕EAO):=
 bif(decide (a<c))then
 (aF b a).bind λd=>
 (qas n d).bind λe=>
 bif e then
 some (Sum.inr (Sum.inl a))
 else
 some (Sum.inl (b,(c,(aK .i64 a 1))))
 else
 some (Sum.inr (Sum.inr ()))
def qu_W0(n:Nat)(s:DD×Int×Int):Option EAO:=aM (λs=>qu_B0 n s.1 s.2.1 s.2.2) n s
def qu(n:Nat)(a:DD):Option Int:=
 (qu_W0 n (a,((aC a),0))).bind λb=>
 Sum.rec (λc=>
 some c) (λd=>
 some (-1)) b
def qj(n:Nat)(a:DD):Option Bool:=
 (qu n a).bind λb=>
 some (decide (b≥0))
def qbg(n:Nat)(a:DI)(b:DJ)(c:DK)(g:DC)(d:DD):Option Bool:=
 bif(decide ((aC a)≤8))then
 (qg n a (aC a)).bind λe=>
 bif(!e.1)then
 bif(decide ((aC b)≥1))then
 bif(decide ((aC b)≤8))then
 (qp n b e.2).bind λf=>
 bif(!f.1)then
 bif(decide ((aC c)≤8))then
 (qi n c f.2).bind λh=>
 bif(!h.1)then
 bif(decide ((aC g)≤16))then
 bif(decide ((aC d)≤16))then
 (qj n d).bind λi=>
 some (!i)
 else
 some false
 else
 some false
 else
 some false
 else
 some false
 else
 some false
 else
 some false
 else
 some false
 else
 some false
 else
 some false
def qn(n:Nat)(b:Int):Option DC:=
 (qdd n (bJ .u64 b)).bind λa=>
 bif(Nat.ble (List.length a) 4294967296)then
 some a
 else none
def qd(n:Nat)(c:Int)(a:DC):Option DC:=
 (qdd n (bJ .u64 c)).bind λb=>
 bif(Nat.ble (List.length (a++b)) 4294967296)then
 some (a++b)
 else none
def qcx(n:Nat)(c d:Int):Option DC:=
 (qdd n (bJ .u64 (N3 c 0))).bind λa=>
 (qdd n (bJ .u64 (N3 d 0))).bind λb=>
 bif(Nat.ble (List.length (a++b)) 4294967296)then
 some (a++b)
 else none
def qk_B0(n:Nat)(c:DA)(d a:Int)(b:DC):Option ((EAT×DC)⊕DC):=
 bif(decide (a<d))then
 (aF c a).bind λe=>
 (qcx n e.1 e.2).bind λf=>
 bif(Nat.ble (List.length (b++f)) 4294967296)then
 some (Sum.inl ((c,(d,(aK .i64 a 1))),(b++f)))
 else none
 else
 some (Sum.inr b)
def qk_W0(n:Nat)(s:EAT×DC):Option DC:=aM (λs=>qk_B0 n s.1.1 s.1.2.1 s.1.2.2 s.2) n s
def qk(n:Nat)(a:DA)(b:DC):Option DC:=
 (qd n (aC a) b).bind λc=>
 (qk_W0 n ((a,((aC a),0)),c)).bind λd=>
 some d
def qag_B0(n:Nat)(b:DI)(c a:Int)(d:DC):Option ((EAH×DC)⊕DC):=
 bif(decide (a<c))then
 (aF b a).bind λe=>
 (qk n e d).bind λf=>
 some (Sum.inl ((b,(c,(aK .i64 a 1))),f))
 else
 some (Sum.inr d)
def qag_W0(n:Nat)(s:EAH×DC):Option DC:=aM (λs=>qag_B0 n s.1.1 s.1.2.1 s.1.2.2 s.2) n s
def qag(n:Nat)(a:DI)(d:DJ)(e:DK)(f:DC)(g:DD):Option DC:=
 (qn n (aC a)).bind λb=>
 (qag_W0 n ((a,((aC a),0)),b)).bind λc=>
 some c
def qv_B2(n:Nat)(d:DJ)(e f:Int)(g:DB)(h a:Int)(b:DC):Option (((DJ×Int×Int×DB×Int×Int)×DC)⊕(EAQ×DC)):=
 bif(decide (a<h))then
 (aF g a).bind λc=>
 (qcw n c.1 c.2.1 c.2.2).bind λi=>
 bif(Nat.ble (List.length (b++i)) 4294967296)then
 some (Sum.inl ((d,(e,(f,(g,(h,(aK .i64 a 1)))))),(b++i)))
 else none
 else
 some (Sum.inr ((d,(e,f)),b))
def qv_W2(n:Nat)(s:(DJ×Int×Int×DB×Int×Int)×DC):Option (EAQ×DC):=aM (λs=>qv_B2 n s.1.1 s.1.2.1 s.1.2.2.1 s.1.2.2.2.1 s.1.2.2.2.2.1 s.1.2.2.2.2.2 s.2) n s
def qv_B0(n:Nat)(d:DJ)(e c:Int)(f:DC):Option ((EAQ×DC)⊕DC):=
 bif(decide (c<e))then
 (aF d c).bind λa=>
 (qk n a.1 f).bind λg=>
 (qcx n a.2.1 a.2.2.1).bind λh=>
 bif(Nat.ble (List.length (g++h)) 4294967296)then
 (qk n a.2.2.2.1 (g++h)).bind λi=>
 (qd n (aC a.2.2.2.2) i).bind λj=>
 (qv_W2 n ((d,(e,(c,(a.2.2.2.2,((aC a.2.2.2.2),0))))),j)).bind λb=>
 some (Sum.inl ((b.1.1,(b.1.2.1,(aK .i64 b.1.2.2 1))),b.2))
 else none
 else
 some (Sum.inr f)
def qv_W0(n:Nat)(s:EAQ×DC):Option DC:=aM (λs=>qv_B0 n s.1.1 s.1.2.1 s.1.2.2 s.2) n s
def qv(n:Nat)(d:DI)(a:DJ)(e:DK)(f:DC)(g:DD):Option DC:=
 (qn n (aC a)).bind λb=>
 (qv_W0 n ((a,((aC a),0)),b)).bind λc=>
 some c
def qad_B0(n:Nat)(c:DK)(d a:Int)(e:DC):Option ((EBB×DC)⊕DC):=
 bif(decide (a<d))then
 (aF c a).bind λb=>
 (qk n b.1 e).bind λf=>
 (qcx n b.2.1 b.2.2).bind λg=>
 bif(Nat.ble (List.length (f++g)) 4294967296)then
 some (Sum.inl ((c,(d,(aK .i64 a 1))),(f++g)))
 else none
 else
 some (Sum.inr e)
def qad_W0(n:Nat)(s:EBB×DC):Option DC:=aM (λs=>qad_B0 n s.1.1 s.1.2.1 s.1.2.2 s.2) n s
def qad(n:Nat)(d:DI)(e:DJ)(a:DK)(f:DC)(g:DD):Option DC:=
 (qn n (aC a)).bind λb=>
 (qad_W0 n ((a,((aC a),0)),b)).bind λc=>
 some c
def qcr_B0(n:Nat)(b d a:Int)(c:DC):Option ((EAI×DC)⊕DC):=
 bif(decide (a<d))then
 bif(decide (0≤(SJ .i64 8 a)))then
 bif(Nat.ble (List.length (c++((bJ .u8 (SK .u64 b (SJ .i64 8 a)))::([]:DE)))) 4294967296)then
 some (Sum.inl ((b,(d,(aK .i64 a 1))),(c++((bJ .u8 (SK .u64 b (SJ .i64 8 a)))::([]:DE)))))
 else none
 else none
 else
 some (Sum.inr c)
def qcr_W0(n:Nat)(s:EAI×DC):Option DC:=aM (λs=>qcr_B0 n s.1.1 s.1.2.1 s.1.2.2 s.2) n s
def qcr(n:Nat)(a b:Int):Option DC:=
 (qcr_W0 n ((a,((U4 (N3 b 0) 8),0)),([]:DE))).bind λc=>
 some c
def qac_B0(n:Nat)(c:DC)(d a:Int)(b:DC):Option (((DC×Int×Int)×DC)⊕DC):=
 bif(decide (a<d))then
 (aF c a).bind λf=>
 (qcr n f 8).bind λe=>
 bif(Nat.ble (List.length (b++e)) 4294967296)then
 some (Sum.inl ((c,(d,(aK .i64 a 1))),(b++e)))
 else none
 else
 some (Sum.inr b)
def qac_W0(n:Nat)(s:(DC×Int×Int)×DC):Option DC:=aM (λs=>qac_B0 n s.1.1 s.1.2.1 s.1.2.2 s.2) n s
def qac(n:Nat)(d:DI)(e:DJ)(f:DK)(a:DC)(g:DD):Option DC:=
 (qn n (aC a)).bind λb=>
 (qac_W0 n ((a,((aC a),0)),b)).bind λc=>
 some c
def qam_B0(n:Nat)(c:DD)(d a:Int)(e:DC):Option (((DD×Int×Int)×DC)⊕DC):=
 bif(decide (a<d))then
 (aF c a).bind λb=>
 (qd n (CL b) e).bind λf=>
 bif(Nat.ble (List.length (f++(c7 b))) 4294967296)then
 some (Sum.inl ((c,(d,(aK .i64 a 1))),(f++(c7 b))))
 else none
 else
 some (Sum.inr e)
def qam_W0(n:Nat)(s:(DD×Int×Int)×DC):Option DC:=aM (λs=>qam_B0 n s.1.1 s.1.2.1 s.1.2.2 s.2) n s
def qam(n:Nat)(d:DI)(e:DJ)(f:DK)(g:DC)(a:DD):Option DC:=
 (qn n (aC a)).bind λb=>
 (qam_W0 n ((a,((aC a),0)),b)).bind λc=>
 some c
def qco_B0(n:Nat)(e:DL)(f b:Int)(a:DC):Option (((DL×Int×Int)×DC)⊕DC):=
 bif(decide (b<f))then
 (aF e b).bind λc=>
 (qdd n (bJ .u64 (aC c))).bind λd=>
 bif(Nat.ble (List.length (a++d)) 4294967296)then
 bif(Nat.ble (List.length ((a++d)++c)) 4294967296)then
 some (Sum.inl ((e,(f,(aK .i64 b 1))),((a++d)++c)))
 else none
 else none
 else
 some (Sum.inr a)
def qco_W0(n:Nat)(s:(DL×Int×Int)×DC):Option DC:=aM (λs=>qco_B0 n s.1.1 s.1.2.1 s.1.2.2 s.2) n s
def qco(n:Nat)(a:DL):Option DC:=
 (qdd n (bJ .u64 (aC a))).bind λb=>
 (qco_W0 n ((a,((aC a),0)),b)).bind λc=>
 some c
def qal(n:Nat)(a:DI)(b:DJ)(c:DK)(d:DC)(e:DD):Option (DC×Int):=
 (qbg n a b c d e).bind λf=>
 bif(!f)then
 some (([]:DE),2)
 else
 (qag n a b c d e).bind λg=>
 (qv n a b c d e).bind λh=>
 (qad n a b c d e).bind λi=>
 (qac n a b c d e).bind λj=>
 (qam n a b c d e).bind λk=>
 (qco n (g::(h::(i::(j::(k::([]:DL))))))).bind λl=>
 some (l,0)
def qbr(n:Nat)(a b:Int):Option Bool:=
 some (decide (a<b))
def qbu(n:Nat)(c:DI)(h:DJ)(i:DK)(j:DC)(k:DD)(d:DA)(ab ac:Int)(e:DA)(f:DB)(b a g:Int):Option Bool:=
 bif(b==0)then
 (qbr n a (aC j)).bind λl=>
 some l
 else
 bif(b==1)then
 (qbr n a (aC k)).bind λm=>
 some m
 else
 bif(b==3)then
 (qbr n a (aK .i64 (aC d) (aC e))).bind λo=>
 some o
 else
 bif(b==4)then
 (qbr n a (aK .i64 (aC d) (aC e))).bind λp=>
 some p
 else
 bif(b==23)then
 (qbr n a (aC f)).bind λq=>
 some q
 else
 bif(b==24)then
 (qbr n a (aC f)).bind λr=>
 some r
 else
 bif(b==25)then
 (qbr n a (aC h)).bind λs=>
 some s
 else
 bif(b==27)then
 (qbr n a (aC i)).bind λt=>
 some t
 else
 bif(b==28)then
 (qbr n a (aC c)).bind λu=>
 some u
 else
 bif(b==29)then
 (qbr n a (aC c)).bind λv=>
 bif v then
 (aF c a).bind λw=>
 (qbr n g (aC w)).bind λx=>
 some x
 else
 some false
 else
 bif(b==30)then
 (qbr n a (aC c)).bind λy=>
 bif y then
 (aF c a).bind λz=>
 (qbr n g (aC z)).bind λaa=>
 some aa
 else
 some false
 else
 some true
def qbe(n:Nat)(k l m:Int)(a:DI)(b:DJ)(c:DK)(d:DC)(e:DD)(f:DA)(g h:Int)(i:DA)(j:DB):Option EBK:=
 (qbu n a b c d e f g h i j k l m).bind λo=>
 some ((!o),((a,(b,(c,(d,e)))),(f,(g,(h,(i,j))))))
def qq_B0(n:Nat)(d:DB)(e a:Int)(f:DI)(g:DJ)(h:DK)(i:DC)(j:DD)(k:DA)(l m:Int)(o:DA)(p:DB):Option (((DB×Int×Int)×EAA×DA×Int×Int×DA×DB)⊕(EBC⊕(EAA×DA×Int×Int×DA×DB))):=
 bif(decide (a<e))then
 (aF d a).bind λb=>
 (qbe n b.1 b.2.1 b.2.2 f g h i j k l m o p).bind λc=>
 bif c.1 then
 some (Sum.inr (Sum.inl (a,c.2)))
 else
 some (Sum.inl ((d,(e,(aK .i64 a 1))),c.2))
 else
 some (Sum.inr (Sum.inr ((f,(g,(h,(i,j)))),(k,(l,(m,(o,p)))))))
def qq_W0(n:Nat)(s:(DB×Int×Int)×EAA×DA×Int×Int×DA×DB):Option (EBC⊕(EAA×DA×Int×Int×DA×DB)):=aM (λs=>qq_B0 n s.1.1 s.1.2.1 s.1.2.2 s.2.1.1 s.2.1.2.1 s.2.1.2.2.1 s.2.1.2.2.2.1 s.2.1.2.2.2.2 s.2.2.1 s.2.2.2.1 s.2.2.2.2.1 s.2.2.2.2.2.1 s.2.2.2.2.2.2) n s
def qq(n:Nat)(a:DB)(b:DI)(c:DJ)(d:DK)(e:DC)(f:DD)(g:DA)(h i:Int)(j:DA)(k:DB):Option EBC:=
 (qq_W0 n ((a,((aC a),0)),((b,(c,(d,(e,f)))),(g,(h,(i,(j,k))))))).bind λl=>
 Sum.rec (λm=>
 some m) (λo=>
 some ((-1),o)) l
def qe(n:Nat)(b:DB)(c:DI)(d:DJ)(e:DK)(f:DC)(g:DD)(h:DA)(i j:Int)(k:DA)(l:DB):Option EBK:=
 (qq n b c d e f g h i j k l).bind λa=>
 some ((decide (a.1≥0)),a.2)
def qbf(n:Nat)(a b:Int):Option Bool:=
 some (a==5)
def qt_B0(n:Nat)(b:DA)(c a:Int):Option (EAT⊕EAO):=
 bif(decide (a<c))then
 (aF b a).bind λd=>
 (qbf n d.1 d.2).bind λe=>
 bif e then
 some (Sum.inr (Sum.inl a))
 else
 some (Sum.inl (b,(c,(aK .i64 a 1))))
 else
 some (Sum.inr (Sum.inr ()))
def qt_W0(n:Nat)(s:DA×Int×Int):Option EAO:=aM (λs=>qt_B0 n s.1 s.2.1 s.2.2) n s
def qt(n:Nat)(a:DA):Option Int:=
 (qt_W0 n (a,((aC a),0))).bind λb=>
 Sum.rec (λc=>
 some c) (λd=>
 some (-1)) b
def qh(n:Nat)(a:DA):Option Bool:=
 (qt n a).bind λb=>
 some (decide (b≥0))
def qcc_B0(n:Nat)(d:DJ)(e c:Int)(f:DI)(g:DJ)(h:DK)(i:DC)(j:DD):Option ((EAQ×DI×DJ×DK×DC×DD)⊕(EBC⊕EAA)):=
 bif(decide (c<e))then
 (aF d c).bind λa=>
 (qe n a.2.2.2.2 f g h i j a.1 a.2.1 a.2.2.1 a.2.2.2.1 a.2.2.2.2).bind λb=>
 bif b.1 then
 some (Sum.inr (Sum.inl (1,b.2)))
 else
 (qh n b.2.2.2.2.2.1).bind λk=>
 bif k then
 some (Sum.inr (Sum.inl (1,b.2)))
 else
 some (Sum.inl ((d,(e,(aK .i64 c 1))),b.2.1))
 else
 some (Sum.inr (Sum.inr (f,(g,(h,(i,j))))))
def qcc_W0(n:Nat)(s:EAQ×DI×DJ×DK×DC×DD):Option (EBC⊕EAA):=aM (λs=>qcc_B0 n s.1.1 s.1.2.1 s.1.2.2 s.2.1 s.2.2.1 s.2.2.2.1 s.2.2.2.2.1 s.2.2.2.2.2) n s
def qck(n:Nat)(a b:Int):Option Bool:=
 bif(a==1)then
 some true
 else
 some (a==5)
def qaq(n:Nat)(a b:Int):Option Bool:=
 (qck n a b).bind λc=>
 some (!c)
def qx_B0(n:Nat)(b:DA)(c a:Int):Option (EAT⊕EAO):=
 bif(decide (a<c))then
 (aF b a).bind λd=>
 (qaq n d.1 d.2).bind λe=>
 bif e then
 some (Sum.inr (Sum.inl a))
 else
 some (Sum.inl (b,(c,(aK .i64 a 1))))
 else
 some (Sum.inr (Sum.inr ()))
def qx_W0(n:Nat)(s:DA×Int×Int):Option EAO:=aM (λs=>qx_B0 n s.1 s.2.1 s.2.2) n s
def qx(n:Nat)(a:DA):Option Int:=
 (qx_W0 n (a,((aC a),0))).bind λb=>
 Sum.rec (λc=>
 some c) (λd=>
 some (-1)) b
def qf(n:Nat)(a:DA):Option Bool:=
 (qx n a).bind λb=>
 some (decide (b≥0))
def qbd(n:Nat)(a:DA)(b c:Int):Option Bool:=
 (qck n b c).bind λd=>
 bif(!d)then
 some true
 else
 (qf n a).bind λe=>
 some e
def qm_B0(n:Nat)(c:DK)(d a:Int):Option (EBB⊕EAO):=
 bif(decide (a<d))then
 (aF c a).bind λb=>
 (qbd n b.1 b.2.1 b.2.2).bind λe=>
 bif e then
 some (Sum.inr (Sum.inl a))
 else
 some (Sum.inl (c,(d,(aK .i64 a 1))))
 else
 some (Sum.inr (Sum.inr ()))
def qm_W0(n:Nat)(s:DK×Int×Int):Option EAO:=aM (λs=>qm_B0 n s.1 s.2.1 s.2.2) n s
def qm(n:Nat)(a:DK):Option Int:=
 (qm_W0 n (a,((aC a),0))).bind λb=>
 Sum.rec (λc=>
 some c) (λd=>
 some (-1)) b
def qb(n:Nat)(a:DK):Option Bool:=
 (qm n a).bind λb=>
 some (decide (b≥0))
def qcc(n:Nat)(b:DI)(a:DJ)(c:DK)(d:DC)(e:DD):Option Int:=
 (qal n b a c d e).bind λf=>
 bif(f.2 !=0)then
 some f.2
 else
 (qcc_W0 n ((a,((aC a),0)),(b,(a,(c,(d,e)))))).bind λg=>
 Sum.rec (λh=>
 some h.1) (λi=>
 (qb n i.2.2.1).bind λj=>
 bif j then
 some 1
 else
 some 0) g
def qci(n:Nat)(b:DI)(a:DJ)(c:DK)(d:DC)(e:DD):Option Bool:=
 (qcc n b a c d e).bind λf=>
 bif(f==0)then
 (aF a 0).bind λg=>
 bif((aC g.1)==0)then
 (aF a 0).bind λh=>
 some (h.2.1==1)
 else
 some false
 else
 some false
def HN(n:Nat)(a:DA):Option DA:=
 bif(List.isEmpty a)then
 Go.Ab.amb (
 some ([]:List EAB)) (
 bif(Nat.ble (List.length a) 4294967296)then
 some a
 else none)
 else
 bif(Nat.ble (List.length a) 4294967296)then
 some a
 else none
def qby(n:Nat)(a:DA):Option DA:=
 bif(Nat.ble (List.length a) 4294967296)then
 some a
 else none
theorem qby_amb(n:Nat)(s:DA):HN n s=qby n s:=by
 cases s with
 |nil=>exact(if_pos rfl)
 |cons x l=>rfl
def qcp(n:Nat)(a:DA):Option EBT:=
 bif((decide (0≤(aC a)))&&(decide ((aC a)≤(((List.length a):Nat):Int))))then
 bif((decide (0≤(aC a)))&&(decide ((aC a)≤(((Int.toNat (aC a)):Nat):Int))))then
 some ((0,((Int.toNat (aC a))-0)),a)
 else none
 else none
def qcz(n:Nat)(a b:Int):Option Bool:=
 bif(a==2)then
 some true
 else
 bif(a==3)then
 some true
 else
 bif(a==4)then
 some true
 else
 bif(a==6)then
 some true
 else
 bif(a==7)then
 some true
 else
 some false
def qcy(n:Nat)(b c a d:Int):Option Bool:=
 bif((b==a)&&(c==d))then
 some true
 else
 bif(a==8)then
 some true
 else
 (qcz n b c).bind λe=>
 bif e then
 (qcz n a d).bind λf=>
 bif f then
 bif(b==6)then
 some true
 else
 some (a==7)
 else
 some false
 else
 some false
def qcm(n:Nat)(a b c d:Int):Option EAB:=
 (qcy n a b c d).bind λe=>
 bif e then
 some (c,d)
 else
 (qcy n c d a b).bind λf=>
 bif f then
 some (a,b)
 else
 (qcz n a b).bind λg=>
 bif g then
 (qcz n c d).bind λh=>
 bif h then
 some (7,0)
 else
 some (8,0)
 else
 some (8,0)
def qo_B0(n:Nat)(a:Int)(f:Nat)(o:Bool)(i:DA)(j b:Int)(k:DI×DJ×DK×DC×DD×Int)(c:DM):Option ((EAP×EAE×DM)⊕(EAM×EAE×DM)):=
 bif(decide (b<j))then
 (aF i b).bind λp=>
 bif(decide (0≤a))then
 (c[(Int.toNat a)]?).bind λd=>
 (c[f]?).bind λu=>
 bif(Nat.beq f (Int.toNat a))then
 bif((decide (0≤b))&&(decide (b<(((List.length d.2):Nat):Int))))then
 (d.2[(Int.toNat b)]?).bind λq=>
 (qcm n q.1 q.2 p.1 p.2).bind λl=>
 (c[(Int.toNat a)]?).bind λe=>
 bif(decide (0≤a))then
 ((List.set c (Int.toNat a) (e.1,d.2))[(Int.toNat a)]?).bind λg=>
 ((List.set c (Int.toNat a) (e.1,d.2))[f]?).bind λv=>
 bif(Nat.beq f (Int.toNat a))then
 bif((decide (0≤b))&&(decide (b<(((List.length g.2):Nat):Int))))then
 (g.2[(Int.toNat b)]?).bind λr=>
 bif(!((l.1==r.1)&&(l.2==r.2)))then
 ((List.set c (Int.toNat a) (e.1,d.2))[(Int.toNat a)]?).bind λh=>
 bif(decide (0≤a))then
 ((List.set (List.set c (Int.toNat a) (e.1,d.2)) (Int.toNat a) (h.1,g.2))[(Int.toNat a)]?).bind λm=>
 ((List.set (List.set c (Int.toNat a) (e.1,d.2)) (Int.toNat a) (h.1,g.2))[f]?).bind λw=>
 bif(Nat.beq f (Int.toNat a))then
 bif((decide (0≤b))&&(decide (b<(((List.length m.2):Nat):Int))))then
 bif(Nat.ble ((Int.toNat b)+1) (List.length m.2))then
 ((List.set (List.set c (Int.toNat a) (e.1,d.2)) (Int.toNat a) (h.1,g.2))[(Int.toNat a)]?).bind λs=>
 some (Sum.inl ((a,(f,(true,(i,(j,(aK .i64 b 1)))))),(k,(List.set (List.set (List.set c (Int.toNat a) (e.1,d.2)) (Int.toNat a) (h.1,g.2)) (Int.toNat a) (s.1,(List.set m.2 (Int.toNat b) l))))))
 else none
 else none
 else none
 else none
 else
 ((List.set c (Int.toNat a) (e.1,d.2))[(Int.toNat a)]?).bind λt=>
 some (Sum.inl ((a,(f,(o,(i,(j,(aK .i64 b 1)))))),(k,(List.set (List.set c (Int.toNat a) (e.1,d.2)) (Int.toNat a) (t.1,g.2)))))
 else none
 else none
 else none
 else none
 else none
 else none
 else
 some (Sum.inr ((a,o),(k,c)))
def qo_W0(n:Nat)(s:EAP×EAE×DM):Option (EAM×EAE×DM):=aM (λs=>qo_B0 n s.1.1 s.1.2.1 s.1.2.2.1 s.1.2.2.2.1 s.1.2.2.2.2.1 s.1.2.2.2.2.2 s.2.1 s.2.2) n s
def qo(n:Nat)(a:Int)(f:DA)(d:DI×DJ×DK×DC×DD×Int)(c:DM):Option (EBO⊕((Bool×EAE×DM)⊕(EBO⊕(Bool×EAE×DM)))):=
 bif((decide (0≤a))&&(decide (a<(((List.length c):Nat):Int))))then
 (c[(Int.toNat a)]?).bind λi=>
 bif(!i.1)then
 (qby n f).bind λj=>
 (qcp n j).bind λe=>
 (c[(Int.toNat a)]?).bind λg=>
 ((List.set c (Int.toNat a) (true,g.2))[(Int.toNat a)]?).bind λo=>
 bif(Nat.ble (List.length (a::([]:DE))) 4294967296)then
 bif(Nat.beq e.1.1 0)then
 bif(Nat.ble e.1.2 (List.length e.2))then
 ((List.set c (Int.toNat a) (true,g.2))[(Int.toNat a)]?).bind λk=>
 some (Sum.inl (true,((d.1,(d.2.1,(d.2.2.1,(d.2.2.2.1,(d.2.2.2.2.1,(d.2.2.2.2.2,(0,(List.length (a::([]:DE)))))))))),((List.set (List.set c (Int.toNat a) (true,g.2)) (Int.toNat a) (k.1,(List.take e.1.2 e.2))),(a::([]:DE))))))
 else none
 else none
 else none
 else
 (c[(Int.toNat a)]?).bind λh=>
 bif((aC h.2) !=(aC f))then
 (c[(Int.toNat a)]?).bind λl=>
 some (Sum.inr (Sum.inl (false,(d,(List.set c (Int.toNat a) (l.1,h.2))))))
 else
 (c[(Int.toNat a)]?).bind λm=>
 (qo_W0 n ((a,((Int.toNat a),(false,(f,((aC f),0))))),(d,(List.set c (Int.toNat a) (m.1,h.2))))).bind λb=>
 bif b.1.2 then
 bif(Nat.ble (List.length (b.1.1::([]:DE))) 4294967296)then
 some (Sum.inr (Sum.inr (Sum.inl (true,((b.2.1.1,(b.2.1.2.1,(b.2.1.2.2.1,(b.2.1.2.2.2.1,(b.2.1.2.2.2.2.1,(b.2.1.2.2.2.2.2,(0,(List.length (b.1.1::([]:DE)))))))))),(b.2.2,(b.1.1::([]:DE))))))))
 else none
 else
 some (Sum.inr (Sum.inr (Sum.inr (true,b.2))))
 else none
def qbs(n:Nat)(a:DA):Option DA:=
 some a
def qcg(n:Nat)(b:Int)(a:DA):Option ((DA×DA)×Bool):=
 bif(b==6)then
 bif(decide ((aC a)≥1))then
 (aF a (bY .i64 (aC a) 1)).bind λc=>
 (qbs n (c::([]:List EAB))).bind λd=>
 (qbs n (c::(c::([]:List EAB)))).bind λe=>
 some ((d,e),true)
 else
 bif(b==7)then
 bif(decide ((aC a)≥2))then
 (aF a (bY .i64 (aC a) 2)).bind λf=>
 (aF a (bY .i64 (aC a) 1)).bind λg=>
 (qbs n (f::(g::([]:List EAB)))).bind λh=>
 (aF a (bY .i64 (aC a) 1)).bind λi=>
 (aF a (bY .i64 (aC a) 2)).bind λj=>
 (qbs n (i::(j::([]:List EAB)))).bind λk=>
 some ((h,k),true)
 else
 bif(b==41)then
 bif(decide ((aC a)≥1))then
 (aF a (bY .i64 (aC a) 1)).bind λl=>
 bif(l.1==5)then
 (aF a (bY .i64 (aC a) 1)).bind λm=>
 (qbs n (m::([]:List EAB))).bind λo=>
 some ((o,[]),true)
 else
 some (([],[]),false)
 else
 some (([],[]),false)
 else
 some (([],[]),false)
 else
 bif(b==41)then
 bif(decide ((aC a)≥1))then
 (aF a (bY .i64 (aC a) 1)).bind λp=>
 bif(p.1==5)then
 (aF a (bY .i64 (aC a) 1)).bind λq=>
 (qbs n (q::([]:List EAB))).bind λr=>
 some ((r,[]),true)
 else
 some (([],[]),false)
 else
 some (([],[]),false)
 else
 some (([],[]),false)
 else
 bif(b==7)then
 bif(decide ((aC a)≥2))then
 (aF a (bY .i64 (aC a) 2)).bind λs=>
 (aF a (bY .i64 (aC a) 1)).bind λt=>
 (qbs n (s::(t::([]:List EAB)))).bind λu=>
 (aF a (bY .i64 (aC a) 1)).bind λv=>
 (aF a (bY .i64 (aC a) 2)).bind λw=>
 (qbs n (v::(w::([]:List EAB)))).bind λx=>
 some ((u,x),true)
 else
 bif(b==41)then
 bif(decide ((aC a)≥1))then
 (aF a (bY .i64 (aC a) 1)).bind λy=>
 bif(y.1==5)then
 (aF a (bY .i64 (aC a) 1)).bind λz=>
 (qbs n (z::([]:List EAB))).bind λaa=>
 some ((aa,[]),true)
 else
 some (([],[]),false)
 else
 some (([],[]),false)
 else
 some (([],[]),false)
 else
 bif(b==41)then
 bif(decide ((aC a)≥1))then
 (aF a (bY .i64 (aC a) 1)).bind λab=>
 bif(ab.1==5)then
 (aF a (bY .i64 (aC a) 1)).bind λac=>
 (qbs n (ac::([]:List EAB))).bind λad=>
 some ((ad,[]),true)
 else
 some (([],[]),false)
 else
 some (([],[]),false)
 else
 some (([],[]),false)
def qca(n:Nat)(a:Int):Option ((DA×DA)×Bool):=
 bif(a==2)then
 (qbs n ((6,0)::([]:List EAB))).bind λd=>
 some (([],d),true)
 else
 bif(a==5)then
 (qbs n ((8,0)::([]:List EAB))).bind λe=>
 some ((e,[]),true)
 else
 bif(a==22)then
 (qbs n ((1,0)::((1,0)::([]:List EAB)))).bind λf=>
 (qbs n ((1,0)::((1,0)::([]:List EAB)))).bind λg=>
 some ((f,g),true)
 else
 bif(a==23)then
 some (([],[]),true)
 else
 bif(a==24)then
 (qbs n ((1,0)::([]:List EAB))).bind λh=>
 some ((h,[]),true)
 else
 bif(a==31)then
 (qbs n ((1,0)::([]:List EAB))).bind λi=>
 (qbs n ((3,0)::([]:List EAB))).bind λj=>
 some ((i,j),true)
 else
 bif(a==32)then
 (qbs n ((3,0)::((1,0)::([]:List EAB)))).bind λk=>
 (qbs n ((1,0)::([]:List EAB))).bind λl=>
 some ((k,l),true)
 else
 bif(a==33)then
 (qbs n ((3,0)::((1,0)::((1,0)::([]:List EAB))))).bind λm=>
 some ((m,[]),true)
 else
 bif(a==34)then
 (qbs n ((3,0)::([]:List EAB))).bind λo=>
 (qbs n ((1,0)::([]:List EAB))).bind λp=>
 some ((o,p),true)
 else
 bif(a==35)then
 (qbs n ((1,0)::([]:List EAB))).bind λq=>
 (qbs n ((2,0)::([]:List EAB))).bind λr=>
 some ((q,r),true)
 else
 bif(a==36)then
 (qbs n ((2,0)::((1,0)::([]:List EAB)))).bind λs=>
 (qbs n ((1,0)::([]:List EAB))).bind λt=>
 some ((s,t),true)
 else
 bif(a==37)then
 (qbs n ((2,0)::((1,0)::((1,0)::([]:List EAB))))).bind λu=>
 some ((u,[]),true)
 else
 bif(a==38)then
 (qbs n ((2,0)::([]:List EAB))).bind λv=>
 (qbs n ((1,0)::([]:List EAB))).bind λw=>
 some ((v,w),true)
 else
 bif(a==39)then
 (qbs n ((7,0)::([]:List EAB))).bind λx=>
 (qbs n ((1,0)::([]:List EAB))).bind λy=>
 some ((x,y),true)
 else
 bif(a==40)then
 (qbs n ((7,0)::((7,0)::([]:List EAB)))).bind λz=>
 (qbs n ((1,0)::([]:List EAB))).bind λaa=>
 some ((z,aa),true)
 else
 (qbs n ((1,0)::((1,0)::([]:List EAB)))).bind λb=>
 (qbs n ((1,0)::([]:List EAB))).bind λc=>
 bif(decide (a≥8))then
 some ((b,c),(decide (a≤21)))
 else
 some ((b,c),false)
def qbx(n:Nat)(b:DA)(g h:Int)(c:DA)(i:DB)(a:Int):Option EAB:=
 bif(decide (a≥0))then
 bif(decide (a<(aC b)))then
 (aF b a).bind λd=>
 some d
 else
 bif(decide (a≥0))then
 bif(decide (a<(aK .i64 (aC b) (aC c))))then
 (aF c (bY .i64 a (aC b))).bind λe=>
 some e
 else
 some (8,0)
 else
 some (8,0)
 else
 bif(decide (a≥0))then
 bif(decide (a<(aK .i64 (aC b) (aC c))))then
 (aF c (bY .i64 a (aC b))).bind λf=>
 some f
 else
 some (8,0)
 else
 some (8,0)
def qbw(n:Nat)(c:DI)(f:DJ)(g:DK)(ai:DC)(aj:DD)(h:DA)(d e:Int)(i:DA)(j:DB)(b a k:Int):Option (DA×DA):=
 bif(b==0)then
 (qbs n ((1,0)::([]:List EAB))).bind λm=>
 some ([],m)
 else
 bif(b==1)then
 (qbs n ((2,0)::([]:List EAB))).bind λo=>
 some ([],o)
 else
 bif(b==3)then
 (qbx n h d e i j a).bind λp=>
 (qbs n (p::([]:List EAB))).bind λq=>
 some ([],q)
 else
 bif(b==4)then
 (qbx n h d e i j a).bind λr=>
 (qbs n (r::([]:List EAB))).bind λs=>
 some (s,[])
 else
 bif(b==25)then
 (aF f a).bind λt=>
 (aF f a).bind λl=>
 (qbs n ((l.2.1,l.2.2.1)::([]:List EAB))).bind λu=>
 some (t.1,u)
 else
 bif(b==26)then
 (qbs n ((d,e)::([]:List EAB))).bind λv=>
 some (v,[])
 else
 bif(b==27)then
 (aF g a).bind λw=>
 (aF g a).bind λx=>
 (qbs n (x.2::([]:List EAB))).bind λy=>
 some (w.1,y)
 else
 bif(b==28)then
 (aF c a).bind λz=>
 (qbs n ((4,a)::([]:List EAB))).bind λaa=>
 some (z,aa)
 else
 bif(b==29)then
 (qbs n ((4,a)::([]:List EAB))).bind λab=>
 (aF c a).bind λac=>
 (aF ac k).bind λad=>
 (qbs n (ad::([]:List EAB))).bind λae=>
 some (ab,ae)
 else
 (aF c a).bind λaf=>
 (aF af k).bind λag=>
 (qbs n ((4,a)::(ag::([]:List EAB)))).bind λah=>
 some (ah,[])
def qdc(n:Nat)(d:DI)(e:DJ)(f:DK)(g:DC)(h:DD)(i:DA)(j k:Int)(l:DA)(m:DB)(a o p:Int)(b:DA):Option ((DA×DA)×Bool):=
 bif(a==6)then
 (qcg n a b).bind λq=>
 some q
 else
 bif(a==7)then
 (qcg n a b).bind λr=>
 some r
 else
 bif(a==41)then
 (qcg n a b).bind λs=>
 some s
 else
 (qca n a).bind λc=>
 bif c.2 then
 some (c.1,true)
 else
 (qbw n d e f g h i j k l m a o p).bind λt=>
 some (t,true)
def qcq_B0(n:Nat)(l:Int)(b:DA)(c:Int)(m:DA)(o a:Int)(d:DA)(e f:Int)(g:DA)(h:DB)(i j:DA):Option (((Int×DA×Int×DA×Int×Int)×EAD×DA×DA)⊕((EAW×EAD×(DA×DA)×Int×Int)⊕((Int×DA×Int)×EAD×DA×DA))):=
 bif(decide (a<o))then
 (aF m a).bind λk=>
 (aF b (aK .i64 c a)).bind λp=>
 (qcy n p.1 p.2 k.1 k.2).bind λq=>
 bif(!q)then
 some (Sum.inr (Sum.inl ((([]:List EAB),(([]:DE),4)),((d,(e,(f,(g,h)))),((i,j),k)))))
 else
 some (Sum.inl ((l,(b,(c,(m,(o,(aK .i64 a 1)))))),((d,(e,(f,(g,h)))),(i,j))))
 else
 some (Sum.inr (Sum.inr ((l,(b,c)),((d,(e,(f,(g,h)))),(i,j)))))
def qcq_W0(n:Nat)(s:(Int×DA×Int×DA×Int×Int)×EAD×DA×DA):Option ((EAW×EAD×(DA×DA)×Int×Int)⊕((Int×DA×Int)×EAD×DA×DA)):=aM (λs=>qcq_B0 n s.1.1 s.1.2.1 s.1.2.2.1 s.1.2.2.2.1 s.1.2.2.2.2.1 s.1.2.2.2.2.2 s.2.1.1 s.2.1.2.1 s.2.1.2.2.1 s.2.1.2.2.2.1 s.2.1.2.2.2.2 s.2.2.1 s.2.2.2) n s
def qcu(n:Nat)(a b d c:Int):Option DC:=
 bif(a==26)then
 some ([]:DE)
 else
 bif(a==23)then
 some (b::([]:DE))
 else
 bif(a==24)then
 some ((aK .i64 c 1)::(b::([]:DE)))
 else
 some ((aK .i64 c 1)::([]:DE))
def qbl_B0(n:Nat)(c:DI)(a:Int)(d:DI)(e b:Int):Option ((DI×Int×DI×Int×Int)⊕(DI×Int)):=
 bif(decide (b<e))then
 (aF d b).bind λf=>
 bif(decide ((aK .i64 a (aC f))<0))then
 none
 else
 some (Sum.inl (c,((aK .i64 a (aC f)),(d,(e,(aK .i64 b 1))))))
 else
 some (Sum.inr (c,a))
def qbl_W0(n:Nat)(s:DI×Int×DI×Int×Int):Option (DI×Int):=aM (λs=>qbl_B0 n s.1 s.2.1 s.2.2.1 s.2.2.2.1 s.2.2.2.2) n s
def qch(n:Nat)(a:Int):Option (EBT⊕Unit):=
 bif(decide (a<0))then
 none
 else
 bif(decide ((bY .i64 a 0)>0))then
 bif((decide (1≤(bY .i64 a 0)))&&(Nat.ble (Int.toNat (bY .i64 a 0)) 4294967296))then
 bif(decide (0≤(((List.length (List.replicate (Int.toNat (bY .i64 a 0)) (0,0))):Nat):Int)))then
 some (Sum.inl ((0,0),(List.replicate (Int.toNat (bY .i64 a 0)) (0,0))))
 else none
 else none
 else
 some (Sum.inr ())
def qbl_B2x1q0(n:Nat)(a:Nat×Nat)(d:DI)(e c:Int)(b:DA):Option (((EBL×DA)⊕((EAH×DA)⊕EAH))⊕(EBT⊕(DA⊕Unit))):=
 bif(decide (c<e))then
 (aF d c).bind λf=>
 bif(Nat.ble (a.1+a.2) (List.length b))then
 bif(Nat.ble (List.length ((List.take a.2 (List.drop a.1 b))++f)) 4294967296)then
 bif(Nat.beq a.1 0)then
 some (Sum.inl (Sum.inr (Sum.inl ((d,(e,(aK .i64 c 1))),((List.take a.2 (List.drop a.1 b))++f)))))
 else none
 else none
 else none
 else
 some (Sum.inr (Sum.inl (a,b)))
def qbl_B2x1q1(n:Nat)(c:DI)(d a:Int)(b:DA):Option (((EBL×DA)⊕((EAH×DA)⊕EAH))⊕(EBT⊕(DA⊕Unit))):=
 bif(decide (a<d))then
 (aF c a).bind λe=>
 bif(Nat.ble (List.length (b++e)) 4294967296)then
 some (Sum.inl (Sum.inr (Sum.inl ((c,(d,(aK .i64 a 1))),(b++e)))))
 else none
 else
 some (Sum.inr (Sum.inr (Sum.inl b)))
def qbl_B2x1q2(n:Nat)(b:DI)(c a:Int):Option (((EBL×DA)⊕((EAH×DA)⊕EAH))⊕(EBT⊕(DA⊕Unit))):=
 bif(decide (a<c))then
 (aF b a).bind λd=>
 bif(Nat.ble (List.length d) 4294967296)then
 some (Sum.inl (Sum.inr (Sum.inl ((b,(c,(aK .i64 a 1))),d))))
 else none
 else
 some (Sum.inr (Sum.inr (Sum.inr ())))
def qbl_M2x1(n:Nat)(s:(EBL×DA)⊕((EAH×DA)⊕EAH)):Option (((EBL×DA)⊕((EAH×DA)⊕EAH))⊕(EBT⊕(DA⊕Unit))):=Sum.rec (λa=>qbl_B2x1q0 n a.1.1 a.1.2.1 a.1.2.2.1 a.1.2.2.2 a.2) (λd=>Sum.rec (λb=>qbl_B2x1q1 n b.1.1 b.1.2.1 b.1.2.2 b.2) (λc=>qbl_B2x1q2 n c.1 c.2.1 c.2.2) d) s
def qbl_W2x1(n:Nat)(s:(EBL×DA)⊕((EAH×DA)⊕EAH)):Option (EBT⊕(DA⊕Unit)):=aM (qbl_M2x1 n) n s
def qbl(n:Nat)(b:DI):Option (EBT⊕DA):=
 (qbl_W0 n (b,(0,(b,((aC b),0))))).bind λa=>
 (qch n a.2).bind λd=>
 Sum.rec (λc=>
 (qbl_W2x1 n (Sum.inl ((c.1,(a.1,((aC a.1),0))),c.2))).bind λe=>
 Sum.rec (λf=>
 some (Sum.inl f)) (λg=>
 Sum.rec (λh=>
 some (Sum.inr h)) (λm=>
 some (Sum.inr [])) g) e) (λo=>
 (qbl_W2x1 n (Sum.inr (Sum.inr (a.1,((aC a.1),0))))).bind λi=>
 Sum.rec (λj=>
 some (Sum.inl j)) (λk=>
 Sum.rec (λl=>
 some (Sum.inr l)) (λp=>
 some (Sum.inr [])) k) i) d
def qbc(n:Nat)(a:DA):Option DA:=
 bif((decide (0≤(aC a)))&&(decide ((aC a)≤(((List.length a):Nat):Int))))then
 bif((decide (0≤(aC a)))&&(decide ((aC a)≤(((Int.toNat (aC a)):Nat):Int))))then
 some (List.take (Int.toNat (aC a)) a)
 else none
 else none
def qbn(n:Nat)(a:DA):Option DA:=
 bif((decide (0≤(aC a)))&&(decide ((aC a)≤(((List.length a):Nat):Int))))then
 bif((decide (0≤(aC a)))&&(decide ((aC a)≤(((Int.toNat (aC a)):Nat):Int))))then
 some (List.take (Int.toNat (aC a)) a)
 else none
 else none
def qcq(n:Nat)(l:DI)(j:DJ)(m:DK)(o:DC)(p:DD)(q k:Int)(d:DA):Option EAW:=
 (aF j q).bind λc=>
 (aF c.2.2.2.2 k).bind λf=>
 (qdc n l j m o p c.1 c.2.1 c.2.2.1 c.2.2.2.1 c.2.2.2.2 f.1 f.2.1 f.2.2 d).bind λb=>
 bif(!b.2)then
 some (([]:List EAB),(([]:DE),4))
 else
 bif(decide ((bY .i64 (aC d) (aC b.1.1))<0))then
 some (([]:List EAB),(([]:DE),4))
 else
 bif(decide ((aK .i64 (bY .i64 (aC d) (aC b.1.1)) (aC b.1.2))>8))then
 some (([]:List EAB),(([]:DE),4))
 else
 (qcq_W0 n ((k,(d,((bY .i64 (aC d) (aC b.1.1)),(b.1.1,((aC b.1.1),0))))),(c,b.1))).bind λr=>
 Sum.rec (λs=>
 some s.1) (λa=>
 (aF a.2.1.2.2.2.2 a.1.1).bind λg=>
 (qcu n g.1 g.2.1 g.2.2 a.1.1).bind λe=>
 bif(decide ((aC e)>0))then
 (aF e 0).bind λt=>
 bif(decide (t≥(aC a.2.1.2.2.2.2)))then
 some (([]:List EAB),(([]:DE),1))
 else
 bif((decide (0≤a.1.2.2))&&(decide (a.1.2.2≤(((List.length a.1.2.1):Nat):Int))))then
 (qbl n ((List.take (Int.toNat a.1.2.2) a.1.2.1)::(a.2.2.2::([]:List (List EAB))))).bind λu=>
 Sum.rec (λh=>
 bif(Nat.ble (h.1.1+h.1.2) (List.length h.2))then
 none
 else none) (λv=>
 (qbc n v).bind λw=>
 some (w,(e,0))) u
 else none
 else
 bif((decide (0≤a.1.2.2))&&(decide (a.1.2.2≤(((List.length a.1.2.1):Nat):Int))))then
 (qbl n ((List.take (Int.toNat a.1.2.2) a.1.2.1)::(a.2.2.2::([]:List (List EAB))))).bind λx=>
 Sum.rec (λi=>
 bif(Nat.ble (i.1.1+i.1.2) (List.length i.2))then
 none
 else none) (λy=>
 (qbc n y).bind λz=>
 some (z,(e,0))) x
 else none) r
def qc_B0(n:Nat)(a:Int)(f:Nat)(p:Bool)(i:DA)(j b:Int)(k:DI×DJ×DK×DC×DD×Int×EAK)(c:DM)(l:DC):Option ((EAP×EAC×DM×DC)⊕(EAM×EAC×DM×DC)):=
 bif(decide (b<j))then
 (aF i b).bind λq=>
 bif(decide (0≤a))then
 (c[(Int.toNat a)]?).bind λd=>
 (c[f]?).bind λv=>
 bif(Nat.beq f (Int.toNat a))then
 bif((decide (0≤b))&&(decide (b<(((List.length d.2):Nat):Int))))then
 (d.2[(Int.toNat b)]?).bind λr=>
 (qcm n r.1 r.2 q.1 q.2).bind λm=>
 (c[(Int.toNat a)]?).bind λe=>
 bif(decide (0≤a))then
 ((List.set c (Int.toNat a) (e.1,d.2))[(Int.toNat a)]?).bind λg=>
 ((List.set c (Int.toNat a) (e.1,d.2))[f]?).bind λw=>
 bif(Nat.beq f (Int.toNat a))then
 bif((decide (0≤b))&&(decide (b<(((List.length g.2):Nat):Int))))then
 (g.2[(Int.toNat b)]?).bind λs=>
 bif(!((m.1==s.1)&&(m.2==s.2)))then
 ((List.set c (Int.toNat a) (e.1,d.2))[(Int.toNat a)]?).bind λh=>
 bif(decide (0≤a))then
 ((List.set (List.set c (Int.toNat a) (e.1,d.2)) (Int.toNat a) (h.1,g.2))[(Int.toNat a)]?).bind λo=>
 ((List.set (List.set c (Int.toNat a) (e.1,d.2)) (Int.toNat a) (h.1,g.2))[f]?).bind λx=>
 bif(Nat.beq f (Int.toNat a))then
 bif((decide (0≤b))&&(decide (b<(((List.length o.2):Nat):Int))))then
 bif(Nat.ble ((Int.toNat b)+1) (List.length o.2))then
 ((List.set (List.set c (Int.toNat a) (e.1,d.2)) (Int.toNat a) (h.1,g.2))[(Int.toNat a)]?).bind λt=>
 some (Sum.inl ((a,(f,(true,(i,(j,(aK .i64 b 1)))))),(k,((List.set (List.set (List.set c (Int.toNat a) (e.1,d.2)) (Int.toNat a) (h.1,g.2)) (Int.toNat a) (t.1,(List.set o.2 (Int.toNat b) m))),l))))
 else none
 else none
 else none
 else none
 else
 ((List.set c (Int.toNat a) (e.1,d.2))[(Int.toNat a)]?).bind λu=>
 some (Sum.inl ((a,(f,(p,(i,(j,(aK .i64 b 1)))))),(k,((List.set (List.set c (Int.toNat a) (e.1,d.2)) (Int.toNat a) (u.1,g.2)),l))))
 else none
 else none
 else none
 else none
 else none
 else none
 else
 some (Sum.inr ((a,p),(k,(c,l))))
def qc_W0(n:Nat)(s:EAP×EAC×DM×DC):Option (EAM×EAC×DM×DC):=aM (λs=>qc_B0 n s.1.1 s.1.2.1 s.1.2.2.1 s.1.2.2.2.1 s.1.2.2.2.2.1 s.1.2.2.2.2.2 s.2.1 s.2.2.1 s.2.2.2) n s
def qc(n:Nat)(b:Int)(g:DA)(c:DI×DJ×DK×DC×DD×Int×EAK)(d:DM)(e:DC):Option (EBO⊕(EBO⊕EBO)):=
 bif((decide (0≤b))&&(decide (b<(((List.length d):Nat):Int))))then
 (d[(Int.toNat b)]?).bind λj=>
 bif(!j.1)then
 (qby n g).bind λk=>
 (qcp n k).bind λf=>
 (d[(Int.toNat b)]?).bind λh=>
 ((List.set d (Int.toNat b) (true,h.2))[(Int.toNat b)]?).bind λp=>
 bif(Nat.ble (c.2.2.2.2.2.2.1+c.2.2.2.2.2.2.2) (List.length e))then
 bif(Nat.ble (List.length ((List.take c.2.2.2.2.2.2.2 (List.drop c.2.2.2.2.2.2.1 e))++(b::([]:DE)))) 4294967296)then
 bif((Nat.beq c.2.2.2.2.2.2.1 0)||(Nat.ble 1 (List.length ((List.take c.2.2.2.2.2.2.2 (List.drop c.2.2.2.2.2.2.1 e))++(b::([]:DE))))))then
 bif(Nat.beq f.1.1 0)then
 bif(Nat.ble f.1.2 (List.length f.2))then
 ((List.set d (Int.toNat b) (true,h.2))[(Int.toNat b)]?).bind λl=>
 some (Sum.inl (true,((c.1,(c.2.1,(c.2.2.1,(c.2.2.2.1,(c.2.2.2.2.1,(c.2.2.2.2.2.1,(0,(List.length ((List.take c.2.2.2.2.2.2.2 (List.drop c.2.2.2.2.2.2.1 e))++(b::([]:DE))))))))))),((List.set (List.set d (Int.toNat b) (true,h.2)) (Int.toNat b) (l.1,(List.take f.1.2 f.2))),((List.take c.2.2.2.2.2.2.2 (List.drop c.2.2.2.2.2.2.1 e))++(b::([]:DE)))))))
 else none
 else none
 else none
 else none
 else none
 else
 (d[(Int.toNat b)]?).bind λi=>
 bif((aC i.2) !=(aC g))then
 (d[(Int.toNat b)]?).bind λm=>
 some (Sum.inr (Sum.inl (false,(c,((List.set d (Int.toNat b) (m.1,i.2)),e)))))
 else
 (d[(Int.toNat b)]?).bind λo=>
 (qc_W0 n ((b,((Int.toNat b),(false,(g,((aC g),0))))),(c,((List.set d (Int.toNat b) (o.1,i.2)),e)))).bind λa=>
 bif a.1.2 then
 bif(Nat.ble (a.2.1.2.2.2.2.2.2.1+a.2.1.2.2.2.2.2.2.2) (List.length a.2.2.2))then
 bif(Nat.ble (List.length ((List.take a.2.1.2.2.2.2.2.2.2 (List.drop a.2.1.2.2.2.2.2.2.1 a.2.2.2))++(a.1.1::([]:DE)))) 4294967296)then
 bif((Nat.beq a.2.1.2.2.2.2.2.2.1 0)||(Nat.ble 1 (List.length ((List.take a.2.1.2.2.2.2.2.2.2 (List.drop a.2.1.2.2.2.2.2.2.1 a.2.2.2))++(a.1.1::([]:DE))))))then
 some (Sum.inr (Sum.inr (true,((a.2.1.1,(a.2.1.2.1,(a.2.1.2.2.1,(a.2.1.2.2.2.1,(a.2.1.2.2.2.2.1,(a.2.1.2.2.2.2.2.1,(0,(List.length ((List.take a.2.1.2.2.2.2.2.2.2 (List.drop a.2.1.2.2.2.2.2.2.1 a.2.2.2))++(a.1.1::([]:DE))))))))))),(a.2.2.1,((List.take a.2.1.2.2.2.2.2.2.2 (List.drop a.2.1.2.2.2.2.2.2.1 a.2.2.2))++(a.1.1::([]:DE))))))))
 else none
 else none
 else none
 else
 some (Sum.inr (Sum.inr (true,a.2)))
 else none
def qr_B0(n:Nat)(a:Int)(c:DA)(d:DC)(e b:Int)(i:DI×DJ×DK×DC×DD×Int×EAK)(j:DM)(k:DC):Option (((Int×DA×DC×Int×Int)×EAC×DM×DC)⊕(EBD⊕(EBD⊕(EBD⊕EBP)))):=
 bif(decide (b<e))then
 (aF d b).bind λl=>
 (qc n l c i j k).bind λm=>
 Sum.rec (λf=>
 bif(!f.1)then
 some (Sum.inr (Sum.inl ((a,4),f.2)))
 else
 some (Sum.inl ((a,(c,(d,(e,(aK .i64 b 1))))),f.2))) (λo=>
 Sum.rec (λg=>
 bif(!g.1)then
 some (Sum.inr (Sum.inr (Sum.inl ((a,4),g.2))))
 else
 some (Sum.inl ((a,(c,(d,(e,(aK .i64 b 1))))),g.2))) (λh=>
 bif(!h.1)then
 some (Sum.inr (Sum.inr (Sum.inr (Sum.inl ((a,4),h.2)))))
 else
 some (Sum.inl ((a,(c,(d,(e,(aK .i64 b 1))))),h.2))) o) m
 else
 some (Sum.inr (Sum.inr (Sum.inr (Sum.inr (i,(j,k))))))
def qr_W0(n:Nat)(s:(Int×DA×DC×Int×Int)×EAC×DM×DC):Option (EBD⊕(EBD⊕(EBD⊕EBP))):=aM (λs=>qr_B0 n s.1.1 s.1.2.1 s.1.2.2.1 s.1.2.2.2.1 s.1.2.2.2.2 s.2.1 s.2.2.1 s.2.2.2) n s
def qr(n:Nat)(a:DI×DJ×DK×DC×DD×Int×EAK)(c:DM)(e:DC):Option (EBD⊕EBD):=
 bif(decide (0<((a.2.2.2.2.2.2.2:Nat):Int)))then
 (e[(a.2.2.2.2.2.2.1+0)]?).bind λb=>
 bif(decide (1≤((a.2.2.2.2.2.2.2:Nat):Int)))then
 bif(decide (0≤b))then
 (c[(Int.toNat b)]?).bind λf=>
 bif((decide (0≤b))&&(decide (b<(((List.length c):Nat):Int))))then
 (c[(Int.toNat b)]?).bind λq=>
 bif(Nat.beq (Int.toNat b) (Int.toNat b))then
 (qcq n a.1 a.2.1 a.2.2.1 a.2.2.2.1 a.2.2.2.2.1 a.2.2.2.2.2.1 b f.2).bind λd=>
 bif(d.2.2 !=0)then
 (c[(Int.toNat b)]?).bind λg=>
 some (Sum.inl ((b,4),((a.1,(a.2.1,(a.2.2.1,(a.2.2.2.1,(a.2.2.2.2.1,(a.2.2.2.2.2.1,((a.2.2.2.2.2.2.1+1),(a.2.2.2.2.2.2.2-1)))))))),((List.set c (Int.toNat b) (g.1,f.2)),e))))
 else
 (c[(Int.toNat b)]?).bind λh=>
 (qr_W0 n ((b,(d.1,(d.2.1,((aC d.2.1),0)))),((a.1,(a.2.1,(a.2.2.1,(a.2.2.2.1,(a.2.2.2.2.1,(a.2.2.2.2.2.1,((a.2.2.2.2.2.2.1+1),(a.2.2.2.2.2.2.2-1)))))))),((List.set c (Int.toNat b) (h.1,f.2)),e)))).bind λi=>
 Sum.rec (λj=>
 some (Sum.inr j)) (λk=>
 Sum.rec (λl=>
 some (Sum.inr l)) (λm=>
 Sum.rec (λo=>
 some (Sum.inr o)) (λp=>
 some (Sum.inr ((0,0),p))) m) k) i
 else none
 else none
 else none
 else none
 else none
def qa_B500x1q0(n:Nat)(a:DI×DJ×DK×DC×DD×Int×EAK)(d:DM)(e:DC):Option ((EBP⊕(EAE×DM))⊕(EBD⊕(EBD⊕EBU))):=
 bif(((a.2.2.2.2.2.2.2:Nat):Int)==0)then
 some (Sum.inr (Sum.inl ((0,0),(a,(d,e)))))
 else
 (qr n a d e).bind λf=>
 Sum.rec (λb=>
 bif(b.1.2 !=0)then
 some (Sum.inr (Sum.inl b))
 else
 some (Sum.inl (Sum.inl b.2))) (λc=>
 bif(c.1.2 !=0)then
 some (Sum.inr (Sum.inr (Sum.inl c)))
 else
 some (Sum.inl (Sum.inl c.2))) f
def qa_B500x1q1(n:Nat)(a:DI×DJ×DK×DC×DD×Int)(b:DM):Option ((EBP⊕(EAE×DM))⊕(EBD⊕(EBD⊕EBU))):=
 some (Sum.inr (Sum.inr (Sum.inr ((0,0),(a,b)))))
def qa_M500x1(n:Nat)(s:EBP⊕(EAE×DM)):Option ((EBP⊕(EAE×DM))⊕(EBD⊕(EBD⊕EBU))):=Sum.rec (λa=>qa_B500x1q0 n a.1 a.2.1 a.2.2) (λb=>qa_B500x1q1 n b.1 b.2) s
def qa_W500x1(n:Nat)(s:EBP⊕(EAE×DM)):Option (EBD⊕(EBD⊕EBU)):=aM (qa_M500x1 n) n s
def qa(n:Nat)(b:DI×DJ×DK×DC×DD×Int):Option (EBD⊕EBU):=
 (aF b.2.1 b.2.2.2.2.2).bind λa=>
 bif((((aC a.2.2.2.2)==(aC a.2.2.2.2))&&(decide (0≤(aC a.2.2.2.2))))&&(Nat.ble (Int.toNat (aC a.2.2.2.2)) 4294967296))then
 (qo n 0 ([]:List EAB) b (List.replicate (Int.toNat (aC a.2.2.2.2)) (false,([]:List EAB)))).bind λc=>
 Sum.rec (λd=>
 (qa_W500x1 n (Sum.inl d.2)).bind λe=>
 Sum.rec (λf=>
 some (Sum.inl f)) (λg=>
 Sum.rec (λh=>
 some (Sum.inl h)) (λi=>
 some (Sum.inr i)) g) e) (λj=>
 Sum.rec (λk=>
 (qa_W500x1 n (Sum.inr k.2)).bind λl=>
 Sum.rec (λm=>
 some (Sum.inl m)) (λo=>
 Sum.rec (λp=>
 some (Sum.inl p)) (λq=>
 some (Sum.inr q)) o) l) (λr=>
 Sum.rec (λs=>
 (qa_W500x1 n (Sum.inl s.2)).bind λt=>
 Sum.rec (λu=>
 some (Sum.inl u)) (λv=>
 Sum.rec (λw=>
 some (Sum.inl w)) (λx=>
 some (Sum.inr x)) v) t) (λy=>
 (qa_W500x1 n (Sum.inr y.2)).bind λz=>
 Sum.rec (λaa=>
 some (Sum.inl aa)) (λab=>
 Sum.rec (λac=>
 some (Sum.inl ac)) (λad=>
 some (Sum.inr ad)) ab) z) r) j) c
 else none
def qat_B1(n:Nat)(j c:Int)(d:DI)(e:DJ)(f:DK)(g:DC)(h:DD)(a:DO):Option ((EAB×EAA×DO)⊕((EAI×EAA×DO×EAC×DM×DC×DO)⊕((EAI×EAA×DO×EAE×DM×DO)⊕(EAA×DO)))):=
 bif(decide (c<j))then
 (qa n (d,(e,(f,(g,(h,c)))))).bind λk=>
 Sum.rec (λb=>
 bif(b.1.2 !=0)then
 some (Sum.inr (Sum.inl ((c,b.1),((d,(e,(f,(g,h)))),(a,(b.2.1,(b.2.2.1,(b.2.2.2,([]:List (List (Bool×List EAB)))))))))))
 else
 bif(Nat.ble (List.length (a++(b.2.2.1::([]:List (List (Bool×List EAB)))))) 4294967296)then
 some (Sum.inl ((j,(aK .i64 c 1)),((d,(e,(f,(g,h)))),(a++(b.2.2.1::([]:List (List (Bool×List EAB))))))))
 else none) (λi=>
 bif(i.1.2 !=0)then
 some (Sum.inr (Sum.inr (Sum.inl ((c,i.1),((d,(e,(f,(g,h)))),(a,(i.2.1,(i.2.2,([]:List (List (Bool×List EAB)))))))))))
 else
 bif(Nat.ble (List.length (a++(i.2.2::([]:List (List (Bool×List EAB)))))) 4294967296)then
 some (Sum.inl ((j,(aK .i64 c 1)),((d,(e,(f,(g,h)))),(a++(i.2.2::([]:List (List (Bool×List EAB))))))))
 else none) k
 else
 some (Sum.inr (Sum.inr (Sum.inr ((d,(e,(f,(g,h)))),a))))
def qat_W1(n:Nat)(s:EAB×EAA×DO):Option ((EAI×EAA×DO×EAC×DM×DC×DO)⊕((EAI×EAA×DO×EAE×DM×DO)⊕(EAA×DO))):=aM (λs=>qat_B1 n s.1.1 s.1.2 s.2.1.1 s.2.1.2.1 s.2.1.2.2.1 s.2.1.2.2.2.1 s.2.1.2.2.2.2 s.2.2) n s
def qat(n:Nat)(b:DI)(a:DJ)(c:DK)(d:DC)(e:DD):Option (DO×Int×Int×Int):=
 (qcc n b a c d e).bind λf=>
 bif(f !=0)then
 some (([]:List (List (Bool×List EAB))),(0,(0,f)))
 else
 (qci n b a c d e).bind λi=>
 bif(!i)then
 some (([]:List (List (Bool×List EAB))),(0,(0,1)))
 else
 (qat_W1 n (((aC a),0),((b,(a,(c,(d,e)))),([]:List (List (Bool×List EAB)))))).bind λj=>
 Sum.rec (λg=>
 some (g.2.2.2.2.2.2,g.1)) (λk=>
 Sum.rec (λh=>
 some (h.2.2.2.2.2,h.1)) (λl=>
 some (l.2,(0,(0,0)))) k) j
def qaj(n:Nat):Option Bool:=
 (qat n ([]:List (List EAB)) ((([]:List EAB),(1,(0,(([]:List EAB),((0,(0,0))::((26,(0,0))::([]:List EAI)))))))::([]:List ((List EAB)×Int×Int×(List EAB)×List EAI))) ([]:List ((List EAB)×Int×Int)) (7::([]:DE)) ([]:DF)).bind λa=>
 bif(a.2.2.2==0)then
 bif((aC a.1)==1)then
 (aF a.1 0).bind λb=>
 bif((aC b)==2)then
 (aF a.1 0).bind λc=>
 (aF c 1).bind λd=>
 bif d.1 then
 (aF a.1 0).bind λe=>
 (aF e 1).bind λf=>
 some ((aC f.2)==1)
 else
 some false
 else
 some false
 else
 some false
 else
 some false
def qct_S(n:Nat)(c:Int->Option DC)(a:Int):Option DC:=
 bif(decide (a<128))then
 some ((bJ .u8 a)::([]:DE))
 else
 (c (Tz .u64 a 128)).bind λb=>
 bif(Nat.ble (List.length (((bJ .u8 (aK .u64 128 (ST a 128)))::([]:DE))++b)) 4294967296)then
 some (((bJ .u8 (aK .u64 128 (ST a 128)))::([]:DE))++b)
 else none
def qct_D(n d:Nat):Int->Option DC:=Nat.rec (λ_=>none) (λ_ ih a=>qct_S n ih a) d
def qct(n:Nat)(a:Int):Option DC:=qct_D n n a
def qce(n:Nat)(b a c:Int):Option Bool:=
 bif(b==1)then
 some (a==0)
 else
 bif(b==2)then
 some (a==0)
 else
 bif(b==3)then
 some (a==0)
 else
 bif(b==7)then
 some (a==0)
 else
 bif(b==4)then
 bif(decide (a≥0))then
 some (decide (a<c))
 else
 some false
 else
 bif(b==5)then
 bif(decide (a≥0))then
 some (decide (a<4))
 else
 some false
 else
 some false
def qcf(n:Nat)(b a:Int):Option DC:=
 bif(decide (b<0))then
 bif(decide (a<0))then
 (qct n (bJ .u64 0)).bind λc=>
 (qct n (bJ .u64 0)).bind λd=>
 bif(Nat.ble (List.length (c++d)) 4294967296)then
 some (c++d)
 else none
 else
 (qct n (bJ .u64 0)).bind λe=>
 (qct n (bJ .u64 a)).bind λf=>
 bif(Nat.ble (List.length (e++f)) 4294967296)then
 some (e++f)
 else none
 else
 bif(decide (a<0))then
 (qct n (bJ .u64 b)).bind λg=>
 (qct n (bJ .u64 0)).bind λh=>
 bif(Nat.ble (List.length (g++h)) 4294967296)then
 some (g++h)
 else none
 else
 (qct n (bJ .u64 b)).bind λi=>
 (qct n (bJ .u64 a)).bind λj=>
 bif(Nat.ble (List.length (i++j)) 4294967296)then
 some (i++j)
 else none
def qak_B0(n:Nat)(a:DA)(d e b:Int)(c:DC):Option (((DA×Int×Int×Int)×DC)⊕((EAY×DC)⊕((DA×Int)×DC))):=
 bif(decide (b<(aC a)))then
 (aF a b).bind λf=>
 (qce n f.1 f.2 d).bind λi=>
 bif(!i)then
 some (Sum.inr (Sum.inl ((([]:DE),false),c)))
 else
 (aF a b).bind λg=>
 (qcf n g.1 g.2).bind λh=>
 bif(Nat.ble (List.length (c++h)) 4294967296)then
 some (Sum.inl ((a,(d,(e,(aK .i64 b 1)))),(c++h)))
 else none
 else
 some (Sum.inr (Sum.inr ((a,e),c)))
def qak_W0(n:Nat)(s:(DA×Int×Int×Int)×DC):Option ((EAY×DC)⊕((DA×Int)×DC)):=aM (λs=>qak_B0 n s.1.1 s.1.2.1 s.1.2.2.1 s.1.2.2.2 s.2) n s
def qak(n:Nat)(b:DA)(c d:Int):Option EAY:=
 (qct n (bJ .u64 (aC b))).bind λe=>
 (qak_W0 n ((b,(c,(d,0))),e)).bind λf=>
 Sum.rec (λg=>
 some g.1) (λa=>
 some (a.2,(decide ((aC a.1.1)≤a.1.2)))) f
def qau_B0(n:Nat)(a:Int)(j:Bool)(b:Int)(c:DI)(f:DJ)(g:DK)(h:DC)(i:DD)(d:DC):Option ((EAJ×EAA×DC)⊕(EAM×EAA×DC)):=
 bif(decide (b<a))then
 (aF c b).bind λk=>
 (qak n k a 6).bind λe=>
 bif(Nat.ble (List.length (d++e.1)) 4294967296)then
 bif j then
 some (Sum.inl ((a,(e.2,(aK .i64 b 1))),((c,(f,(g,(h,i)))),(d++e.1))))
 else
 some (Sum.inl ((a,(false,(aK .i64 b 1))),((c,(f,(g,(h,i)))),(d++e.1))))
 else none
 else
 some (Sum.inr ((a,j),((c,(f,(g,(h,i)))),d)))
def qau_W0(n:Nat)(s:EAJ×EAA×DC):Option (EAM×EAA×DC):=aM (λs=>qau_B0 n s.1.1 s.1.2.1 s.1.2.2 s.2.1.1 s.2.1.2.1 s.2.1.2.2.1 s.2.1.2.2.2.1 s.2.1.2.2.2.2 s.2.2) n s
def qbz_B0(n:Nat)(c:Int)(a:DC)(b:Int):Option ((Int×DC×Int)⊕EAO):=
 bif(decide (b<(aC a)))then
 (aF a b).bind λd=>
 bif(d==c)then
 some (Sum.inr (Sum.inl 1))
 else
 some (Sum.inl (c,(a,(aK .i64 b 1))))
 else
 some (Sum.inr (Sum.inr ()))
def qbz_W0(n:Nat)(s:Int×DC×Int):Option EAO:=aM (λs=>qbz_B0 n s.1 s.2.1 s.2.2) n s
def qbz(n:Nat)(a:Int):Option Int:=
 bif(decide (a<0))then
 some (-1)
 else
 bif(decide (a≥42))then
 some (-1)
 else
 bif(a==29)then
 some 2
 else
 bif(a==30)then
 some 2
 else
 (qbz_W0 n (a,((0::(1::(3::(4::(23::(24::(25::(27::(28::([]:DE)))))))))),0))).bind λb=>
 Sum.rec (λc=>
 some c) (λd=>
 some 0) b
def qbk(n:Nat)(a d c:Int):Option DC:=
 (qbz n a).bind λb=>
 bif(decide (b<0))then
 some ([]:DE)
 else
 bif(decide (d<0))then
 some ([]:DE)
 else
 bif(decide (d>255))then
 some ([]:DE)
 else
 bif(decide (c<0))then
 some ([]:DE)
 else
 bif(decide (c>255))then
 some ([]:DE)
 else
 bif(decide (b<1))then
 bif(d !=0)then
 some ([]:DE)
 else
 bif(decide (b<2))then
 bif(c !=0)then
 some ([]:DE)
 else
 bif(decide (b>0))then
 (qct n (bJ .u64 d)).bind λe=>
 bif(Nat.ble (List.length (((bJ .u8 a)::([]:DE))++e)) 4294967296)then
 bif(decide (b>1))then
 (qct n (bJ .u64 c)).bind λi=>
 bif(Nat.ble (List.length ((((bJ .u8 a)::([]:DE))++e)++i)) 4294967296)then
 some ((((bJ .u8 a)::([]:DE))++e)++i)
 else none
 else
 some (((bJ .u8 a)::([]:DE))++e)
 else none
 else
 bif(decide (b>1))then
 (qct n (bJ .u64 c)).bind λj=>
 bif(Nat.ble (List.length (((bJ .u8 a)::([]:DE))++j)) 4294967296)then
 some (((bJ .u8 a)::([]:DE))++j)
 else none
 else
 some ((bJ .u8 a)::([]:DE))
 else
 bif(decide (b>0))then
 (qct n (bJ .u64 d)).bind λf=>
 bif(Nat.ble (List.length (((bJ .u8 a)::([]:DE))++f)) 4294967296)then
 bif(decide (b>1))then
 (qct n (bJ .u64 c)).bind λk=>
 bif(Nat.ble (List.length ((((bJ .u8 a)::([]:DE))++f)++k)) 4294967296)then
 some ((((bJ .u8 a)::([]:DE))++f)++k)
 else none
 else
 some (((bJ .u8 a)::([]:DE))++f)
 else none
 else
 bif(decide (b>1))then
 (qct n (bJ .u64 c)).bind λl=>
 bif(Nat.ble (List.length (((bJ .u8 a)::([]:DE))++l)) 4294967296)then
 some (((bJ .u8 a)::([]:DE))++l)
 else none
 else
 some ((bJ .u8 a)::([]:DE))
 else
 bif(decide (b<2))then
 bif(c !=0)then
 some ([]:DE)
 else
 bif(decide (b>0))then
 (qct n (bJ .u64 d)).bind λg=>
 bif(Nat.ble (List.length (((bJ .u8 a)::([]:DE))++g)) 4294967296)then
 bif(decide (b>1))then
 (qct n (bJ .u64 c)).bind λm=>
 bif(Nat.ble (List.length ((((bJ .u8 a)::([]:DE))++g)++m)) 4294967296)then
 some ((((bJ .u8 a)::([]:DE))++g)++m)
 else none
 else
 some (((bJ .u8 a)::([]:DE))++g)
 else none
 else
 bif(decide (b>1))then
 (qct n (bJ .u64 c)).bind λo=>
 bif(Nat.ble (List.length (((bJ .u8 a)::([]:DE))++o)) 4294967296)then
 some (((bJ .u8 a)::([]:DE))++o)
 else none
 else
 some ((bJ .u8 a)::([]:DE))
 else
 bif(decide (b>0))then
 (qct n (bJ .u64 d)).bind λh=>
 bif(Nat.ble (List.length (((bJ .u8 a)::([]:DE))++h)) 4294967296)then
 bif(decide (b>1))then
 (qct n (bJ .u64 c)).bind λp=>
 bif(Nat.ble (List.length ((((bJ .u8 a)::([]:DE))++h)++p)) 4294967296)then
 some ((((bJ .u8 a)::([]:DE))++h)++p)
 else none
 else
 some (((bJ .u8 a)::([]:DE))++h)
 else none
 else
 bif(decide (b>1))then
 (qct n (bJ .u64 c)).bind λq=>
 bif(Nat.ble (List.length (((bJ .u8 a)::([]:DE))++q)) 4294967296)then
 some (((bJ .u8 a)::([]:DE))++q)
 else none
 else
 some ((bJ .u8 a)::([]:DE))
def qau_B4(n:Nat)(q:Int)(r:Bool)(s c:Int)(d:DI)(e:DJ)(f:DK)(g:DC)(h:DD)(i b:DC)(j:DA)(k l:Int)(m:DA)(a:DB):Option (((Int×Bool×Int×Int)×EAA×DC×DC×DA×Int×Int×DA×DB)⊕(EBG⊕(EAJ×EAA×DC×DC×DA×Int×Int×DA×DB))):=
 bif(decide (c<(aC a)))then
 (aF a c).bind λo=>
 (qbk n o.1 o.2.1 o.2.2).bind λp=>
 bif((aC p)==0)then
 some (Sum.inr (Sum.inl ((([]:DE),false),((d,(e,(f,(g,h)))),(i,(b,(j,(k,(l,(m,a))))))))))
 else
 bif(Nat.ble (List.length (b++p)) 4294967296)then
 some (Sum.inl ((q,(r,(s,(aK .i64 c 1)))),((d,(e,(f,(g,h)))),(i,((b++p),(j,(k,(l,(m,a)))))))))
 else none
 else
 some (Sum.inr (Sum.inr ((q,(r,s)),((d,(e,(f,(g,h)))),(i,(b,(j,(k,(l,(m,a))))))))))
def qau_W4(n:Nat)(s:(Int×Bool×Int×Int)×EAA×DC×DC×DA×Int×Int×DA×DB):Option (EBG⊕(EAJ×EAA×DC×DC×DA×Int×Int×DA×DB)):=aM (λs=>qau_B4 n s.1.1 s.1.2.1 s.1.2.2.1 s.1.2.2.2 s.2.1.1 s.2.1.2.1 s.2.1.2.2.1 s.2.1.2.2.2.1 s.2.1.2.2.2.2 s.2.2.1 s.2.2.2.1 s.2.2.2.2.1 s.2.2.2.2.2.1 s.2.2.2.2.2.2.1 s.2.2.2.2.2.2.2.1 s.2.2.2.2.2.2.2.2) n s
def qau_B2(n:Nat)(k:Int)(p:Bool)(o:Int)(d:DI)(c:DJ)(e:DK)(f:DC)(g:DD)(h b:DC):Option ((EAJ×EAA×DC×DC)⊕(EBG⊕(EAM×EAA×DC×DC))):=
 bif(decide (o<(aC c)))then
 (aF c o).bind λa=>
 (qak n a.1 k 4).bind λi=>
 (qak n a.2.2.2.1 k (bY .i64 8 (aC a.1))).bind λl=>
 bif p then
 bif i.2 then
 bif l.2 then
 (qce n a.2.1 a.2.2.1 k).bind λr=>
 bif r then
 bif(decide ((aC a.2.2.2.2)≥1))then
 bif(!(decide ((aC a.2.2.2.2)≤64)))then
 some (Sum.inr (Sum.inl ((([]:DE),false),((d,(c,(e,(f,g)))),(h,(b,a))))))
 else
 bif(Nat.ble (List.length (b++i.1)) 4294967296)then
 (qcf n a.2.1 a.2.2.1).bind λm=>
 bif(Nat.ble (List.length ((b++i.1)++m)) 4294967296)then
 bif(Nat.ble (List.length (((b++i.1)++m)++l.1)) 4294967296)then
 (qct n (bJ .u64 (aC a.2.2.2.2))).bind λq=>
 bif(Nat.ble (List.length ((((b++i.1)++m)++l.1)++q)) 4294967296)then
 (qau_W4 n ((k,((decide ((aC a.2.2.2.2)≤64)),(o,0))),((d,(c,(e,(f,g)))),(h,(((((b++i.1)++m)++l.1)++q),a))))).bind λs=>
 Sum.rec (λt=>
 some (Sum.inr (Sum.inl t))) (λj=>
 some (Sum.inl ((j.1.1,(j.1.2.1,(aK .i64 j.1.2.2 1))),(j.2.1,(j.2.2.1,j.2.2.2.1))))) s
 else none
 else none
 else none
 else none
 else
 some (Sum.inr (Sum.inl ((([]:DE),false),((d,(c,(e,(f,g)))),(h,(b,a))))))
 else
 some (Sum.inr (Sum.inl ((([]:DE),false),((d,(c,(e,(f,g)))),(h,(b,a))))))
 else
 some (Sum.inr (Sum.inl ((([]:DE),false),((d,(c,(e,(f,g)))),(h,(b,a))))))
 else
 some (Sum.inr (Sum.inl ((([]:DE),false),((d,(c,(e,(f,g)))),(h,(b,a))))))
 else
 some (Sum.inr (Sum.inl ((([]:DE),false),((d,(c,(e,(f,g)))),(h,(b,a))))))
 else
 some (Sum.inr (Sum.inr ((k,p),((d,(c,(e,(f,g)))),(h,b)))))
def qau_W2(n:Nat)(s:EAJ×EAA×DC×DC):Option (EBG⊕(EAM×EAA×DC×DC)):=aM (λs=>qau_B2 n s.1.1 s.1.2.1 s.1.2.2 s.2.1.1 s.2.1.2.1 s.2.1.2.2.1 s.2.1.2.2.2.1 s.2.1.2.2.2.2 s.2.2.1 s.2.2.2) n s
def qau_B6(n:Nat)(e:Int)(l:Bool)(d:Int)(f:DI)(g:DJ)(a:DK)(h:DC)(i:DD)(j k b:DC):Option ((EAJ×EAA×DC×DC×DC)⊕(Bool×EAA×DC×DC×DC)):=
 bif(decide (d<(aC a)))then
 (aF a d).bind λu=>
 (qak n u.1 e 4).bind λc=>
 bif l then
 bif c.2 then
 (aF a d).bind λm=>
 (qce n m.2.1 m.2.2 e).bind λv=>
 bif(Nat.ble (List.length (b++c.1)) 4294967296)then
 (aF a d).bind λo=>
 (qcf n o.2.1 o.2.2).bind λp=>
 bif(Nat.ble (List.length ((b++c.1)++p)) 4294967296)then
 some (Sum.inl ((e,(v,(aK .i64 d 1))),((f,(g,(a,(h,i)))),(j,(k,((b++c.1)++p))))))
 else none
 else none
 else
 bif(Nat.ble (List.length (b++c.1)) 4294967296)then
 (aF a d).bind λq=>
 (qcf n q.2.1 q.2.2).bind λr=>
 bif(Nat.ble (List.length ((b++c.1)++r)) 4294967296)then
 some (Sum.inl ((e,(false,(aK .i64 d 1))),((f,(g,(a,(h,i)))),(j,(k,((b++c.1)++r))))))
 else none
 else none
 else
 bif(Nat.ble (List.length (b++c.1)) 4294967296)then
 (aF a d).bind λs=>
 (qcf n s.2.1 s.2.2).bind λt=>
 bif(Nat.ble (List.length ((b++c.1)++t)) 4294967296)then
 some (Sum.inl ((e,(false,(aK .i64 d 1))),((f,(g,(a,(h,i)))),(j,(k,((b++c.1)++t))))))
 else none
 else none
 else
 some (Sum.inr (l,((f,(g,(a,(h,i)))),(j,(k,b)))))
def qau_W6(n:Nat)(s:EAJ×EAA×DC×DC×DC):Option (Bool×EAA×DC×DC×DC):=aM (λs=>qau_B6 n s.1.1 s.1.2.1 s.1.2.2 s.2.1.1 s.2.1.2.1 s.2.1.2.2.1 s.2.1.2.2.2.1 s.2.1.2.2.2.2 s.2.2.1 s.2.2.2.1 s.2.2.2.2) n s
def qbj_B0(n:Nat)(b d c:Int)(a:DC):Option ((EAI×DC)⊕DC):=
 bif(decide (c<d))then
 bif(decide (c<8))then
 bif(Nat.ble (List.length (a++((bJ .u8 (ST b 256))::([]:DE)))) 4294967296)then
 some (Sum.inl (((Tz .u64 b 256),(d,(aK .i64 c 1))),(a++((bJ .u8 (ST b 256))::([]:DE)))))
 else none
 else
 some (Sum.inr a)
 else
 some (Sum.inr a)
def qbj_W0(n:Nat)(s:EAI×DC):Option DC:=aM (λs=>qbj_B0 n s.1.1 s.1.2.1 s.1.2.2 s.2) n s
def qbj(n:Nat)(a b:Int):Option DC:=
 (qbj_W0 n ((a,(b,0)),([]:DE))).bind λc=>
 some c
def qau_B8(n:Nat)(d:Bool)(b:Int)(e:DI)(f:DJ)(g:DK)(a:DC)(h:DD)(i j k c:DC):Option ((EAN×EAA×DC×DC×DC×DC)⊕(Bool×EAA×DC×DC×DC×DC)):=
 bif(decide (b<(aC a)))then
 (aF a b).bind λm=>
 (qbj n m 8).bind λl=>
 bif(Nat.ble (List.length (c++l)) 4294967296)then
 some (Sum.inl ((d,(aK .i64 b 1)),((e,(f,(g,(a,h)))),(i,(j,(k,(c++l)))))))
 else none
 else
 some (Sum.inr (d,((e,(f,(g,(a,h)))),(i,(j,(k,c))))))
def qau_W8(n:Nat)(s:EAN×EAA×DC×DC×DC×DC):Option (Bool×EAA×DC×DC×DC×DC):=aM (λs=>qau_B8 n s.1.1 s.1.2 s.2.1.1 s.2.1.2.1 s.2.1.2.2.1 s.2.1.2.2.2.1 s.2.1.2.2.2.2 s.2.2.1 s.2.2.2.1 s.2.2.2.2.1 s.2.2.2.2.2) n s
def qau_B10(n:Nat)(o:Bool)(b:Int)(d:DI)(e:DJ)(f:DK)(g:DC)(a:DD)(h i j k c:DC):Option ((EAN×EAA×DC×DC×DC×DC×DC)⊕(Bool×EAA×DC×DC×DC×DC×DC)):=
 bif(decide (b<(aC a)))then
 bif o then
 (aF a b).bind λr=>
 (aF a b).bind λs=>
 (qct n (bJ .u64 (CL s))).bind λl=>
 bif(Nat.ble (List.length (c++l)) 4294967296)then
 (aF a b).bind λp=>
 bif(Nat.ble (List.length ((c++l)++(c7 p))) 4294967296)then
 some (Sum.inl (((decide ((CL r)≤32)),(aK .i64 b 1)),((d,(e,(f,(g,a)))),(h,(i,(j,(k,((c++l)++(c7 p)))))))))
 else none
 else none
 else
 (aF a b).bind λt=>
 (qct n (bJ .u64 (CL t))).bind λm=>
 bif(Nat.ble (List.length (c++m)) 4294967296)then
 (aF a b).bind λq=>
 bif(Nat.ble (List.length ((c++m)++(c7 q))) 4294967296)then
 some (Sum.inl ((false,(aK .i64 b 1)),((d,(e,(f,(g,a)))),(h,(i,(j,(k,((c++m)++(c7 q)))))))))
 else none
 else none
 else
 some (Sum.inr (o,((d,(e,(f,(g,a)))),(h,(i,(j,(k,c)))))))
def qau_W10(n:Nat)(s:EAN×EAA×DC×DC×DC×DC×DC):Option (Bool×EAA×DC×DC×DC×DC×DC):=aM (λs=>qau_B10 n s.1.1 s.1.2 s.2.1.1 s.2.1.2.1 s.2.1.2.2.1 s.2.1.2.2.2.1 s.2.1.2.2.2.2 s.2.2.1 s.2.2.2.1 s.2.2.2.2.1 s.2.2.2.2.2.1 s.2.2.2.2.2.2) n s
def qbv_B0(n:Nat)(a:DL)(b:Int)(c:DC):Option (((DL×Int)×DC)⊕DC):=
 bif(decide (b<(aC a)))then
 (aF a b).bind λf=>
 (qct n (bJ .u64 (aC f))).bind λd=>
 bif(Nat.ble (List.length (c++d)) 4294967296)then
 (aF a b).bind λe=>
 bif(Nat.ble (List.length ((c++d)++e)) 4294967296)then
 some (Sum.inl ((a,(aK .i64 b 1)),((c++d)++e)))
 else none
 else none
 else
 some (Sum.inr c)
def qbv_W0(n:Nat)(s:(DL×Int)×DC):Option DC:=aM (λs=>qbv_B0 n s.1.1 s.1.2 s.2) n s
def qbv(n:Nat)(a:DL):Option DC:=
 (qct n (bJ .u64 (aC a))).bind λb=>
 (qbv_W0 n ((a,0),b)).bind λc=>
 some c
def qau(n:Nat)(f:DI)(g:DJ)(h:DK)(i:DC)(j:DD):Option EAY:=
 bif(decide ((aC f)>8))then
 some (([]:DE),false)
 else
 bif(decide ((aC g)<1))then
 some (([]:DE),false)
 else
 bif(decide ((aC g)>8))then
 some (([]:DE),false)
 else
 bif(decide ((aC h)>8))then
 some (([]:DE),false)
 else
 bif(decide ((aC i)>16))then
 some (([]:DE),false)
 else
 bif(decide ((aC j)>16))then
 some (([]:DE),false)
 else
 (qct n (bJ .u64 (aC f))).bind λk=>
 (qau_W0 n (((aC f),(true,0)),((f,(g,(h,(i,j)))),k))).bind λe=>
 (qct n (bJ .u64 (aC e.2.1.2.1))).bind λl=>
 (qau_W2 n ((e.1.1,(e.1.2,0)),(e.2.1,(e.2.2,l)))).bind λm=>
 Sum.rec (λo=>
 some o.1) (λb=>
 (qct n (bJ .u64 (aC b.2.1.2.2.1))).bind λp=>
 (qau_W6 n ((b.1.1,(b.1.2,0)),(b.2.1,(b.2.2.1,(b.2.2.2,p))))).bind λc=>
 (qct n (bJ .u64 (aC c.2.1.2.2.2.1))).bind λq=>
 (qau_W8 n ((c.1,0),(c.2.1,(c.2.2.1,(c.2.2.2.1,(c.2.2.2.2,q)))))).bind λa=>
 (qct n (bJ .u64 (aC a.2.1.2.2.2.2))).bind λr=>
 (qau_W10 n ((a.1,0),(a.2.1,(a.2.2.1,(a.2.2.2.1,(a.2.2.2.2.1,(a.2.2.2.2.2,r))))))).bind λd=>
 (qbv n (d.2.2.1::(d.2.2.2.1::(d.2.2.2.2.1::(d.2.2.2.2.2.1::(d.2.2.2.2.2.2::([]:DL))))))).bind λs=>
 some (s,d.1)) m
def qbi(n:Nat)(c:DI)(h:DJ)(i:DK)(j:DC)(k:DD)(d:DA)(o p:Int)(e:DA)(f:DB)(b a g:Int):Option Bool:=
 bif(b==0)then
 some (decide (a<(aC j)))
 else
 bif(b==1)then
 some (decide (a<(aC k)))
 else
 bif(b==3)then
 some (decide (a<(aK .i64 (aC d) (aC e))))
 else
 bif(b==4)then
 some (decide (a<(aK .i64 (aC d) (aC e))))
 else
 bif(b==23)then
 some (decide (a<(aC f)))
 else
 bif(b==24)then
 some (decide (a<(aC f)))
 else
 bif(b==25)then
 some (decide (a<(aC h)))
 else
 bif(b==27)then
 some (decide (a<(aC i)))
 else
 bif(b==28)then
 some (decide (a<(aC c)))
 else
 bif(b==29)then
 bif(decide (a<(aC c)))then
 (aF c a).bind λl=>
 some (decide (g<(aC l)))
 else
 some false
 else
 bif(b==30)then
 bif(decide (a<(aC c)))then
 (aF c a).bind λm=>
 some (decide (g<(aC m)))
 else
 some false
 else
 some true
def qbm_B2(n:Nat)(m k:Int)(b:DI)(c:DJ)(d:DK)(e:DC)(f:DD)(g:DA)(h i:Int)(j:DA)(a:DB):Option ((EAB×EAA×DA×Int×Int×DA×DB)⊕(EBC⊕EBC)):=
 bif(decide (k<(aC a)))then
 (aF a k).bind λl=>
 (qbi n b c d e f g h i j a l.1 l.2.1 l.2.2).bind λo=>
 bif(!o)then
 some (Sum.inr (Sum.inl (1,((b,(c,(d,(e,f)))),(g,(h,(i,(j,a))))))))
 else
 some (Sum.inl ((m,(aK .i64 k 1)),((b,(c,(d,(e,f)))),(g,(h,(i,(j,a)))))))
 else
 some (Sum.inr (Sum.inr (m,((b,(c,(d,(e,f)))),(g,(h,(i,(j,a))))))))
def qbm_W2(n:Nat)(s:EAB×EAA×DA×Int×Int×DA×DB):Option (EBC⊕EBC):=aM (λs=>qbm_B2 n s.1.1 s.1.2 s.2.1.1 s.2.1.2.1 s.2.1.2.2.1 s.2.1.2.2.2.1 s.2.1.2.2.2.2 s.2.2.1 s.2.2.2.1 s.2.2.2.2.1 s.2.2.2.2.2.1 s.2.2.2.2.2.2) n s
def qbm_B4(n:Nat)(l b:Int)(c:DI)(d:DJ)(e:DK)(f:DC)(g:DD)(h:DA)(i j:Int)(a:DA)(k:DB):Option ((EAB×EAA×DA×Int×Int×DA×DB)⊕(EBC⊕EBC)):=
 bif(decide (b<(aC a)))then
 (aF a b).bind λm=>
 bif(m.1==5)then
 some (Sum.inr (Sum.inl (1,((c,(d,(e,(f,g)))),(h,(i,(j,(a,k))))))))
 else
 some (Sum.inl ((l,(aK .i64 b 1)),((c,(d,(e,(f,g)))),(h,(i,(j,(a,k)))))))
 else
 some (Sum.inr (Sum.inr (l,((c,(d,(e,(f,g)))),(h,(i,(j,(a,k))))))))
def qbm_W4(n:Nat)(s:EAB×EAA×DA×Int×Int×DA×DB):Option (EBC⊕EBC):=aM (λs=>qbm_B4 n s.1.1 s.1.2 s.2.1.1 s.2.1.2.1 s.2.1.2.2.1 s.2.1.2.2.2.1 s.2.1.2.2.2.2 s.2.2.1 s.2.2.2.1 s.2.2.2.2.1 s.2.2.2.2.2.1 s.2.2.2.2.2.2) n s
def qbm_B0(n:Nat)(b:Int)(c:DI)(a:DJ)(d:DK)(e:DC)(f:DD):Option (EAG⊕(EBC⊕EAA)):=
 bif(decide (b<(aC a)))then
 (aF a b).bind λi=>
 (qbm_W2 n ((b,0),((c,(a,(d,(e,f)))),i))).bind λj=>
 Sum.rec (λk=>
 some (Sum.inr (Sum.inl k))) (λg=>
 (qbm_W4 n ((g.1,0),g.2)).bind λl=>
 Sum.rec (λm=>
 some (Sum.inr (Sum.inl m))) (λh=>
 some (Sum.inl ((aK .i64 h.1 1),h.2.1))) l) j
 else
 some (Sum.inr (Sum.inr (c,(a,(d,(e,f))))))
def qbm_W0(n:Nat)(s:Int×DI×DJ×DK×DC×DD):Option (EBC⊕EAA):=aM (λs=>qbm_B0 n s.1 s.2.1 s.2.2.1 s.2.2.2.1 s.2.2.2.2.1 s.2.2.2.2.2) n s
def qbq(n:Nat)(a b:Int):Option Bool:=
 bif(a==1)then
 some true
 else
 some (a==5)
def qbm_B8(n:Nat)(a:Int)(h:Bool)(c:Int)(d:DI)(e:DJ)(b:DK)(f:DC)(g:DD):Option ((EAJ×DI×DJ×DK×DC×DD)⊕(EAM×DI×DJ×DK×DC×DD)):=
 (aF b a).bind λj=>
 bif(decide (c<(aC j.1)))then
 bif h then
 (aF b a).bind λk=>
 (aF k.1 c).bind λi=>
 (qbq n i.1 i.2).bind λl=>
 some (Sum.inl ((a,(l,(aK .i64 c 1))),(d,(e,(b,(f,g))))))
 else
 some (Sum.inl ((a,(false,(aK .i64 c 1))),(d,(e,(b,(f,g))))))
 else
 some (Sum.inr ((a,h),(d,(e,(b,(f,g))))))
def qbm_W8(n:Nat)(s:EAJ×DI×DJ×DK×DC×DD):Option (EAM×DI×DJ×DK×DC×DD):=aM (λs=>qbm_B8 n s.1.1 s.1.2.1 s.1.2.2 s.2.1 s.2.2.1 s.2.2.2.1 s.2.2.2.2.1 s.2.2.2.2.2) n s
def qbm_B6(n:Nat)(c:Int)(d:DI)(e:DJ)(a:DK)(f:DC)(g:DD):Option (EAG⊕(EAG⊕EAA)):=
 bif(decide (c<(aC a)))then
 (aF a c).bind λh=>
 (qbq n h.2.1 h.2.2).bind λi=>
 (qbm_W8 n ((c,(i,0)),(d,(e,(a,(f,g)))))).bind λb=>
 bif(!b.1.2)then
 some (Sum.inr (Sum.inl (1,b.2)))
 else
 some (Sum.inl ((aK .i64 b.1.1 1),b.2))
 else
 some (Sum.inr (Sum.inr (d,(e,(a,(f,g))))))
def qbm_W6(n:Nat)(s:Int×DI×DJ×DK×DC×DD):Option (EAG⊕EAA):=aM (λs=>qbm_B6 n s.1 s.2.1 s.2.2.1 s.2.2.2.1 s.2.2.2.2.1 s.2.2.2.2.2) n s
def qbm(n:Nat)(a:DI)(b:DJ)(c:DK)(d:DC)(e:DD):Option Int:=
 (qau n a b c d e).bind λf=>
 bif(!f.2)then
 some 2
 else
 (qbm_W0 n (0,(a,(b,(c,(d,e)))))).bind λg=>
 Sum.rec (λh=>
 some h.1) (λi=>
 (qbm_W6 n (0,i)).bind λj=>
 Sum.rec (λk=>
 some k.1) (λl=>
 some 0) j) g
def qcb(n:Nat)(b:DI)(a:DJ)(c:DK)(d:DC)(e:DD):Option Bool:=
 (qbm n b a c d e).bind λf=>
 bif(f==0)then
 (aF a 0).bind λg=>
 bif((aC g.1)==0)then
 (aF a 0).bind λh=>
 some (h.2.1==1)
 else
 some false
 else
 some false
def qav(n:Nat)(a:DA)(e f:Int)(c:DA)(g:DB)(b:Int):Option EAB:=
 bif(Nat.ble (List.length a) 4294967296)then
 bif(Nat.ble (List.length (a++c)) 4294967296)then
 bif(decide (b<0))then
 some (8,0)
 else
 bif(decide (b≥(aC (a++c))))then
 some (8,0)
 else
 bif((decide (0≤b))&&(decide (b<(((List.length (a++c)):Nat):Int))))then
 ((a++c)[(Int.toNat b)]?).bind λd=>
 some d
 else none
 else none
 else none
def qbt(n:Nat)(d:DI)(g:DJ)(h:DK)(ad:DC)(ae:DD)(i:DA)(e f:Int)(j:DA)(k:DB)(b c l:Int)(a:DA):Option (DA×DA×Bool):=
 bif(b==0)then
 some (([]:List EAB),(((1,0)::([]:List EAB)),true))
 else
 bif(b==1)then
 some (([]:List EAB),(((2,0)::([]:List EAB)),true))
 else
 bif(b==2)then
 some (([]:List EAB),(((6,0)::([]:List EAB)),true))
 else
 bif(b==3)then
 (qav n i e f j k c).bind λo=>
 some (([]:List EAB),((o::([]:List EAB)),true))
 else
 bif(b==4)then
 (qav n i e f j k c).bind λp=>
 some ((p::([]:List EAB)),(([]:List EAB),true))
 else
 bif(b==5)then
 some (((8,0)::([]:List EAB)),(([]:List EAB),true))
 else
 bif(b==6)then
 bif(decide ((aC a)<1))then
 some (([]:List EAB),(([]:List EAB),false))
 else
 bif((decide (0≤(bY .i64 (aC a) 1)))&&(decide ((bY .i64 (aC a) 1)≤(((List.length a):Nat):Int))))then
 (aF a (bY .i64 (aC a) 1)).bind λq=>
 (aF a (bY .i64 (aC a) 1)).bind λr=>
 some ((List.drop (Int.toNat (bY .i64 (aC a) 1)) (List.take (List.length a) a)),((q::(r::([]:List EAB))),true))
 else none
 else
 bif(b==7)then
 bif(decide ((aC a)<2))then
 some (([]:List EAB),(([]:List EAB),false))
 else
 bif((decide (0≤(bY .i64 (aC a) 2)))&&(decide ((bY .i64 (aC a) 2)≤(((List.length a):Nat):Int))))then
 (aF a (bY .i64 (aC a) 1)).bind λs=>
 (aF a (bY .i64 (aC a) 2)).bind λt=>
 some ((List.drop (Int.toNat (bY .i64 (aC a) 2)) (List.take (List.length a) a)),((s::(t::([]:List EAB))),true))
 else none
 else
 bif(b==22)then
 some (((1,0)::((1,0)::([]:List EAB))),(((1,0)::((1,0)::([]:List EAB))),true))
 else
 bif(b==23)then
 some (([]:List EAB),(([]:List EAB),true))
 else
 bif(b==24)then
 some (((1,0)::([]:List EAB)),(([]:List EAB),true))
 else
 bif(b==25)then
 (aF g c).bind λu=>
 (aF g c).bind λm=>
 some (u.1,(((m.2.1,m.2.2.1)::([]:List EAB)),true))
 else
 bif(b==26)then
 some (((e,f)::([]:List EAB)),(([]:List EAB),true))
 else
 bif(b==27)then
 (aF h c).bind λv=>
 (aF h c).bind λw=>
 some (v.1,((w.2::([]:List EAB)),true))
 else
 bif(b==28)then
 (aF d c).bind λx=>
 some (x,(((4,c)::([]:List EAB)),true))
 else
 bif(b==29)then
 (aF d c).bind λy=>
 (aF y l).bind λz=>
 some (((4,c)::([]:List EAB)),((z::([]:List EAB)),true))
 else
 bif(b==30)then
 (aF d c).bind λaa=>
 (aF aa l).bind λab=>
 some (((4,c)::(ab::([]:List EAB))),(([]:List EAB),true))
 else
 bif(b==31)then
 some (((1,0)::([]:List EAB)),(((3,0)::([]:List EAB)),true))
 else
 bif(b==32)then
 some (((3,0)::((1,0)::([]:List EAB))),(((1,0)::([]:List EAB)),true))
 else
 bif(b==33)then
 some (((3,0)::((1,0)::((1,0)::([]:List EAB)))),(([]:List EAB),true))
 else
 bif(b==34)then
 some (((3,0)::([]:List EAB)),(((1,0)::([]:List EAB)),true))
 else
 bif(b==35)then
 some (((1,0)::([]:List EAB)),(((2,0)::([]:List EAB)),true))
 else
 bif(b==36)then
 some (((2,0)::((1,0)::([]:List EAB))),(((1,0)::([]:List EAB)),true))
 else
 bif(b==37)then
 some (((2,0)::((1,0)::((1,0)::([]:List EAB)))),(([]:List EAB),true))
 else
 bif(b==38)then
 some (((2,0)::([]:List EAB)),(((1,0)::([]:List EAB)),true))
 else
 bif(b==39)then
 some (((7,0)::([]:List EAB)),(((1,0)::([]:List EAB)),true))
 else
 bif(b==40)then
 some (((7,0)::((7,0)::([]:List EAB))),(((1,0)::([]:List EAB)),true))
 else
 bif(b==41)then
 bif(decide ((aC a)<1))then
 some (([]:List EAB),(([]:List EAB),false))
 else
 (aF a (bY .i64 (aC a) 1)).bind λac=>
 bif(ac.1 !=5)then
 some (([]:List EAB),(([]:List EAB),false))
 else
 bif((decide (0≤(bY .i64 (aC a) 1)))&&(decide ((bY .i64 (aC a) 1)≤(((List.length a):Nat):Int))))then
 some ((List.drop (Int.toNat (bY .i64 (aC a) 1)) (List.take (List.length a) a)),(([]:List EAB),true))
 else none
 else
 some (((1,0)::((1,0)::([]:List EAB))),(((1,0)::([]:List EAB)),true))
def qcs(n:Nat)(a b:Int):Option Bool:=
 bif(a==2)then
 some true
 else
 bif(a==3)then
 some true
 else
 bif(a==4)then
 some true
 else
 bif(a==6)then
 some true
 else
 some (a==7)
def qcl(n:Nat)(b c a d:Int):Option Bool:=
 bif((b==a)&&(c==d))then
 some true
 else
 bif(a==8)then
 some true
 else
 (qcs n b c).bind λe=>
 bif e then
 (qcs n a d).bind λf=>
 bif f then
 bif(b==6)then
 some true
 else
 some (a==7)
 else
 some false
 else
 some false
def qcd_B0(n:Nat)(m:Int)(b c o:DA)(d a:Int)(e:DA)(f g:Int)(h:DA)(i:DB)(j k l:Int):Option (((Int×DA×DA×DA×Int×Int)×EAD×Int×Int×Int)⊕((EAW×EAD×Int×Int×Int)⊕((Int×DA×DA×Int)×EAD×Int×Int×Int))):=
 bif(decide (a<(aC c)))then
 (aF b (aK .i64 d a)).bind λp=>
 (aF c a).bind λq=>
 (qcl n p.1 p.2 q.1 q.2).bind λr=>
 bif(!r)then
 some (Sum.inr (Sum.inl ((([]:List EAB),(([]:DE),4)),((e,(f,(g,(h,i)))),(j,(k,l))))))
 else
 some (Sum.inl ((m,(b,(c,(o,(d,(aK .i64 a 1)))))),((e,(f,(g,(h,i)))),(j,(k,l)))))
 else
 some (Sum.inr (Sum.inr ((m,(b,(o,d))),((e,(f,(g,(h,i)))),(j,(k,l))))))
def qcd_W0(n:Nat)(s:(Int×DA×DA×DA×Int×Int)×EAD×Int×Int×Int):Option ((EAW×EAD×Int×Int×Int)⊕((Int×DA×DA×Int)×EAD×Int×Int×Int)):=aM (λs=>qcd_B0 n s.1.1 s.1.2.1 s.1.2.2.1 s.1.2.2.2.1 s.1.2.2.2.2.1 s.1.2.2.2.2.2 s.2.1.1 s.2.1.2.1 s.2.1.2.2.1 s.2.1.2.2.2.1 s.2.1.2.2.2.2 s.2.2.1 s.2.2.2.1 s.2.2.2.2) n s
def qcd(n:Nat)(h:DI)(f:DJ)(i:DK)(j:DC)(k:DD)(l g:Int)(d:DA):Option EAW:=
 (aF f l).bind λb=>
 (aF b.2.2.2.2 g).bind λe=>
 (qbt n h f i j k b.1 b.2.1 b.2.2.1 b.2.2.2.1 b.2.2.2.2 e.1 e.2.1 e.2.2 d).bind λc=>
 bif(!c.2.2)then
 some (([]:List EAB),(([]:DE),4))
 else
 bif(decide ((bY .i64 (aC d) (aC c.1))<0))then
 some (([]:List EAB),(([]:DE),4))
 else
 bif(decide ((aK .i64 (bY .i64 (aC d) (aC c.1)) (aC c.2.1))>8))then
 some (([]:List EAB),(([]:DE),4))
 else
 (qcd_W0 n ((g,(d,(c.1,(c.2.1,((bY .i64 (aC d) (aC c.1)),0))))),(b,e))).bind λm=>
 Sum.rec (λo=>
 some o.1) (λa=>
 bif((decide (0≤a.1.2.2.2))&&(decide (a.1.2.2.2≤(((List.length a.1.2.1):Nat):Int))))then
 bif(Nat.ble (List.length (List.take (Int.toNat a.1.2.2.2) a.1.2.1)) 4294967296)then
 bif(Nat.ble (List.length ((List.take (Int.toNat a.1.2.2.2) a.1.2.1)++a.1.2.2.1)) 4294967296)then
 bif(a.2.2.1==26)then
 some (((List.take (Int.toNat a.1.2.2.2) a.1.2.1)++a.1.2.2.1),(([]:DE),0))
 else
 bif(a.2.2.1==23)then
 some (((List.take (Int.toNat a.1.2.2.2) a.1.2.1)++a.1.2.2.1),((a.2.2.2.1::([]:DE)),0))
 else
 bif(decide ((aK .i64 a.1.1 1)≥(aC a.2.1.2.2.2.2)))then
 some (([]:List EAB),(([]:DE),1))
 else
 bif(a.2.2.1==24)then
 some (((List.take (Int.toNat a.1.2.2.2) a.1.2.1)++a.1.2.2.1),(((aK .i64 a.1.1 1)::(a.2.2.2.1::([]:DE))),0))
 else
 some (((List.take (Int.toNat a.1.2.2.2) a.1.2.1)++a.1.2.2.1),(((aK .i64 a.1.1 1)::([]:DE)),0))
 else none
 else none
 else none) m
def qaw(n:Nat)(a b c d:Int):Option EAB:=
 (qcl n a b c d).bind λe=>
 bif e then
 some (c,d)
 else
 (qcl n c d a b).bind λf=>
 bif f then
 some (a,b)
 else
 (qcs n a b).bind λg=>
 bif g then
 (qcs n c d).bind λh=>
 bif h then
 some (7,0)
 else
 some (8,0)
 else
 some (8,0)
def qbp_B8(n:Nat)(d:Int)(e:Bool)(f:Int)(c:DA)(g:DC)(h:Int)(i:Nat)(a:Int)(j:DI)(k:DJ)(l:DK)(m:DC)(o:DD)(p:DO)(q:DM)(b:DA):Option (((Int×Bool×Int×DA×DC×Int×Nat×Int)×EAA×DO×DM×DA)⊕((Int×Bool×Int×DA×DC×Int×Nat)×EAA×DO×DM×DA)):=
 bif(decide (a<(aC c)))then
 bif((decide (0≤a))&&(decide (a<(((List.length b):Nat):Int))))then
 (b[(Int.toNat a)]?).bind λr=>
 (aF c a).bind λs=>
 (qaw n r.1 r.2 s.1 s.2).bind λt=>
 bif((decide (0≤a))&&(decide (a<(((List.length b):Nat):Int))))then
 bif(Nat.ble ((Int.toNat a)+1) (List.length b))then
 some (Sum.inl ((d,(e,(f,(c,(g,(h,(i,(aK .i64 a 1)))))))),((j,(k,(l,(m,o)))),(p,(q,(List.set b (Int.toNat a) t))))))
 else none
 else none
 else none
 else
 some (Sum.inr ((d,(e,(f,(c,(g,(h,i)))))),((j,(k,(l,(m,o)))),(p,(q,b)))))
def qbp_W8(n:Nat)(s:(Int×Bool×Int×DA×DC×Int×Nat×Int)×EAA×DO×DM×DA):Option ((Int×Bool×Int×DA×DC×Int×Nat)×EAA×DO×DM×DA):=aM (λs=>qbp_B8 n s.1.1 s.1.2.1 s.1.2.2.1 s.1.2.2.2.1 s.1.2.2.2.2.1 s.1.2.2.2.2.2.1 s.1.2.2.2.2.2.2.1 s.1.2.2.2.2.2.2.2 s.2.1.1 s.2.1.2.1 s.2.1.2.2.1 s.2.1.2.2.2.1 s.2.1.2.2.2.2 s.2.2.1 s.2.2.2.1 s.2.2.2.2) n s
def qba_B0(n:Nat)(b c:DA)(a:Int):Option ((DA×DA×Int)⊕EAU):=
 bif(decide (a<(aC b)))then
 (aF b a).bind λd=>
 (aF c a).bind λe=>
 bif(!((d.1==e.1)&&(d.2==e.2)))then
 some (Sum.inr (Sum.inl false))
 else
 some (Sum.inl (b,(c,(aK .i64 a 1))))
 else
 some (Sum.inr (Sum.inr ()))
def qba_W0(n:Nat)(s:DA×DA×Int):Option EAU:=aM (λs=>qba_B0 n s.1 s.2.1 s.2.2) n s
def qba(n:Nat)(a b:DA):Option Bool:=
 bif((aC a) !=(aC b))then
 some false
 else
 (qba_W0 n (a,(b,0))).bind λc=>
 Sum.rec (λd=>
 some d) (λe=>
 some true) c
def qbp_B6(n:Nat)(m:Int)(p:Bool)(o:Int)(d:DA)(e:DC)(f:Int)(g:DI)(h:DJ)(i:DK)(j:DC)(k:DD)(l:DO)(c:DM):Option (((Int×Bool×Int×DA×DC×Int)×EAA×DO×DM)⊕(EBI⊕(EAJ×EAA×DO×DM))):=
 bif(decide (f<(aC e)))then
 (aF e f).bind λb=>
 bif((decide (0≤b))&&(decide (b<(((List.length c):Nat):Int))))then
 (c[(Int.toNat b)]?).bind λs=>
 bif(!s.1)then
 (c[(Int.toNat b)]?).bind λq=>
 ((List.set c (Int.toNat b) (true,q.2))[(Int.toNat b)]?).bind λt=>
 some (Sum.inl ((m,(true,(o,(d,(e,(aK .i64 f 1)))))),((g,(h,(i,(j,k)))),(l,(List.set (List.set c (Int.toNat b) (true,q.2)) (Int.toNat b) (t.1,d))))))
 else
 (c[(Int.toNat b)]?).bind λu=>
 bif((aC u.2) !=(aC d))then
 some (Sum.inr (Sum.inl ((([]:List (List (Bool×List EAB))),false),((g,(h,(i,(j,k)))),(l,c)))))
 else
 (c[(Int.toNat b)]?).bind λr=>
 bif(Nat.ble (List.length r.2) 4294967296)then
 (qbp_W8 n ((m,(p,(o,(d,(e,(f,((Int.toNat b),0))))))),((g,(h,(i,(j,k)))),(l,(c,r.2))))).bind λa=>
 (a.2.2.2.1[a.1.2.2.2.2.2.2]?).bind λv=>
 (qba n a.2.2.2.2 v.2).bind λw=>
 bif(!w)then
 (a.2.2.2.1[a.1.2.2.2.2.2.2]?).bind λx=>
 some (Sum.inl ((a.1.1,(true,(a.1.2.2.1,(a.1.2.2.2.1,(a.1.2.2.2.2.1,(aK .i64 a.1.2.2.2.2.2.1 1)))))),(a.2.1,(a.2.2.1,(List.set a.2.2.2.1 a.1.2.2.2.2.2.2 (x.1,a.2.2.2.2))))))
 else
 some (Sum.inl ((a.1.1,(a.1.2.1,(a.1.2.2.1,(a.1.2.2.2.1,(a.1.2.2.2.2.1,(aK .i64 a.1.2.2.2.2.2.1 1)))))),(a.2.1,(a.2.2.1,a.2.2.2.1))))
 else none
 else none
 else
 some (Sum.inr (Sum.inr ((m,(p,o)),((g,(h,(i,(j,k)))),(l,c)))))
def qbp_W6(n:Nat)(s:(Int×Bool×Int×DA×DC×Int)×EAA×DO×DM):Option (EBI⊕(EAJ×EAA×DO×DM)):=aM (λs=>qbp_B6 n s.1.1 s.1.2.1 s.1.2.2.1 s.1.2.2.2.1 s.1.2.2.2.2.1 s.1.2.2.2.2.2 s.2.1.1 s.2.1.2.1 s.2.1.2.2.1 s.2.1.2.2.2.1 s.2.1.2.2.2.2 s.2.2.1 s.2.2.2) n s
def qbp_B4(n:Nat)(h:Int)(k:Bool)(a:Int)(c:DI)(d:DJ)(e:DK)(f:DC)(g:DD)(i:DO)(b:DM):Option ((EAJ×EAA×DO×DM)⊕(EBI⊕(EAM×EAA×DO×DM))):=
 bif(decide (a<(aC b)))then
 bif((decide (0≤a))&&(decide (a<(((List.length b):Nat):Int))))then
 (b[(Int.toNat a)]?).bind λm=>
 bif(!m.1)then
 some (Sum.inl ((h,(k,(aK .i64 a 1))),((c,(d,(e,(f,g)))),(i,b))))
 else
 bif((decide (0≤a))&&(decide (a<(((List.length b):Nat):Int))))then
 (b[(Int.toNat a)]?).bind λo=>
 (qcd n c d e f g h a o.2).bind λl=>
 bif(l.2.2 !=0)then
 some (Sum.inr (Sum.inl ((([]:List (List (Bool×List EAB))),false),((c,(d,(e,(f,g)))),(i,b)))))
 else
 (qbp_W6 n ((h,(k,(a,(l.1,(l.2.1,0))))),((c,(d,(e,(f,g)))),(i,b)))).bind λp=>
 Sum.rec (λq=>
 some (Sum.inr (Sum.inl q))) (λj=>
 some (Sum.inl ((j.1.1,(j.1.2.1,(aK .i64 j.1.2.2 1))),j.2))) p
 else none
 else none
 else
 some (Sum.inr (Sum.inr ((h,k),((c,(d,(e,(f,g)))),(i,b)))))
def qbp_W4(n:Nat)(s:EAJ×EAA×DO×DM):Option (EBI⊕(EAM×EAA×DO×DM)):=aM (λs=>qbp_B4 n s.1.1 s.1.2.1 s.1.2.2 s.2.1.1 s.2.1.2.1 s.2.1.2.2.1 s.2.1.2.2.2.1 s.2.1.2.2.2.2 s.2.2.1 s.2.2.2) n s
def qbp_B2(n:Nat)(a:Int)(i:Bool)(b:DI)(c:DJ)(d:DK)(e:DC)(f:DD)(g:DO)(h:DM):Option ((EAM×EAA×DO×DM)⊕(EBI⊕(Int×EAA×DO×DM))):=
 bif i then
 (qbp_W4 n ((a,(false,0)),((b,(c,(d,(e,f)))),(g,h)))).bind λj=>
 Sum.rec (λk=>
 some (Sum.inr (Sum.inl k))) (λl=>
 some (Sum.inl l)) j
 else
 some (Sum.inr (Sum.inr (a,((b,(c,(d,(e,f)))),(g,h)))))
def qbp_W2(n:Nat)(s:EAM×EAA×DO×DM):Option (EBI⊕(Int×EAA×DO×DM)):=aM (λs=>qbp_B2 n s.1.1 s.1.2 s.2.1.1 s.2.1.2.1 s.2.1.2.2.1 s.2.1.2.2.2.1 s.2.1.2.2.2.2 s.2.2.1 s.2.2.2) n s
def qbp_B0(n:Nat)(d:Int)(e:DI)(c:DJ)(f:DK)(g:DC)(h:DD)(i:DO):Option ((Int×EAA×DO)⊕(EBI⊕(EAA×DO))):=
 bif(decide (d<(aC c)))then
 (aF c d).bind λa=>
 bif((((aC a.2.2.2.2)==(aC a.2.2.2.2))&&(decide (0≤(aC a.2.2.2.2))))&&(Nat.ble (Int.toNat (aC a.2.2.2.2)) 4294967296))then
 bif(decide (0<(((List.length (List.replicate (Int.toNat (aC a.2.2.2.2)) (false,([]:List EAB)))):Nat):Int)))then
 ((List.replicate (Int.toNat (aC a.2.2.2.2)) (false,([]:List EAB)))[0]?).bind λj=>
 (qbp_W2 n ((d,true),((e,(c,(f,(g,h)))),(i,(List.set (List.replicate (Int.toNat (aC a.2.2.2.2)) (false,([]:List EAB))) 0 (true,j.2)))))).bind λk=>
 Sum.rec (λl=>
 some (Sum.inr (Sum.inl l))) (λb=>
 bif(Nat.ble (List.length (b.2.2.1++(b.2.2.2::([]:List (List (Bool×List EAB)))))) 4294967296)then
 some (Sum.inl ((aK .i64 b.1 1),(b.2.1,(b.2.2.1++(b.2.2.2::([]:List (List (Bool×List EAB))))))))
 else none) k
 else none
 else none
 else
 some (Sum.inr (Sum.inr ((e,(c,(f,(g,h)))),i)))
def qbp_W0(n:Nat)(s:Int×EAA×DO):Option (EBI⊕(EAA×DO)):=aM (λs=>qbp_B0 n s.1 s.2.1.1 s.2.1.2.1 s.2.1.2.2.1 s.2.1.2.2.2.1 s.2.1.2.2.2.2 s.2.2) n s
def qbp(n:Nat)(a:DI)(b:DJ)(c:DK)(d:DC)(e:DD):Option EAV:=
 (qbp_W0 n (0,((a,(b,(c,(d,e)))),([]:List (List (Bool×List EAB)))))).bind λf=>
 Sum.rec (λg=>
 some g.1) (λh=>
 some (h.2,true)) f
def qaf_B2(n:Nat)(c d:DO)(a b:Int):Option ((DO×DO×Int×Int)⊕(Bool⊕EAX)):=
 (aF c a).bind λe=>
 bif(decide (b<(aC e)))then
 (aF c a).bind λf=>
 (aF f b).bind λg=>
 (aF d a).bind λh=>
 (aF h b).bind λi=>
 bif(!(g.1==i.1))then
 some (Sum.inr (Sum.inl false))
 else
 (aF c a).bind λj=>
 (aF j b).bind λk=>
 (aF d a).bind λl=>
 (aF l b).bind λm=>
 (qba n k.2 m.2).bind λo=>
 bif(!o)then
 some (Sum.inr (Sum.inl false))
 else
 some (Sum.inl (c,(d,(a,(aK .i64 b 1)))))
 else
 some (Sum.inr (Sum.inr (c,(d,a))))
def qaf_W2(n:Nat)(s:DO×DO×Int×Int):Option (Bool⊕EAX):=aM (λs=>qaf_B2 n s.1 s.2.1 s.2.2.1 s.2.2.2) n s
def qaf_B0(n:Nat)(b d:DO)(a:Int):Option (EAX⊕EAU):=
 bif(decide (a<(aC b)))then
 (aF b a).bind λe=>
 (aF d a).bind λf=>
 bif((aC e) !=(aC f))then
 some (Sum.inr (Sum.inl false))
 else
 (qaf_W2 n (b,(d,(a,0)))).bind λg=>
 Sum.rec (λh=>
 some (Sum.inr (Sum.inl h))) (λc=>
 some (Sum.inl (c.1,(c.2.1,(aK .i64 c.2.2 1))))) g
 else
 some (Sum.inr (Sum.inr ()))
def qaf_W0(n:Nat)(s:DO×DO×Int):Option EAU:=aM (λs=>qaf_B0 n s.1 s.2.1 s.2.2) n s
def qaf(n:Nat)(a b:DO):Option Bool:=
 bif((aC a) !=(aC b))then
 some false
 else
 (qaf_W0 n (a,(b,0))).bind λc=>
 Sum.rec (λd=>
 some d) (λe=>
 some true) c
def kQ(n:Nat)(c:DI)(b:DJ)(d:DK)(e:DC)(f:DD):Option Bool:=
 (qaz n c b d e f).bind λi=>
 bif(!i)then
 (qaj n).bind λj=>
 some j
 else
 (qat n c b d e f).bind λa=>
 (qbm n c b d e f).bind λg=>
 bif(g !=0)then
 (qaj n).bind λk=>
 bif k then
 bif(a.2.2.2==g)then
 bif((aC a.1)==0)then
 bif(a.2.1==0)then
 some (a.2.2.1==0)
 else
 some false
 else
 some false
 else
 some false
 else
 some false
 else
 (qcb n c b d e f).bind λl=>
 bif(!l)then
 (qaj n).bind λm=>
 bif m then
 bif(a.2.2.2==1)then
 bif((aC a.1)==0)then
 bif(a.2.1==0)then
 some (a.2.2.1==0)
 else
 some false
 else
 some false
 else
 some false
 else
 some false
 else
 (qbp n c b d e f).bind λh=>
 bif(!h.2)then
 (qaj n).bind λo=>
 bif o then
 bif(a.2.2.2==4)then
 bif((aC a.1)==0)then
 bif(decide (a.2.1≥0))then
 bif(decide (a.2.1<(aC b)))then
 bif(decide (a.2.2.1≥0))then
 (aF b a.2.1).bind λp=>
 some (decide (a.2.2.1<(aC p.2.2.2.2)))
 else
 some false
 else
 some false
 else
 some false
 else
 some false
 else
 some false
 else
 some false
 else
 (qaj n).bind λq=>
 bif q then
 bif(a.2.2.2==0)then
 bif(a.2.1==0)then
 bif(a.2.2.1==0)then
 (qaf n a.1 h.1).bind λr=>
 some r
 else
 some false
 else
 some false
 else
 some false
 else
 some false
def qbb_B0(n:Nat)(b c:DA)(a:Int):Option ((DA×DA×Int)⊕EAU):=
 bif(decide (a<(aC b)))then
 (aF b a).bind λd=>
 (aF c a).bind λe=>
 (qcl n d.1 d.2 e.1 e.2).bind λf=>
 bif(!f)then
 some (Sum.inr (Sum.inl false))
 else
 some (Sum.inl (b,(c,(aK .i64 a 1))))
 else
 some (Sum.inr (Sum.inr ()))
def qbb_W0(n:Nat)(s:DA×DA×Int):Option EAU:=aM (λs=>qbb_B0 n s.1 s.2.1 s.2.2) n s
def qbb(n:Nat)(a b:DA):Option Bool:=
 bif((aC a) !=(aC b))then
 some false
 else
 (qbb_W0 n (a,(b,0))).bind λc=>
 Sum.rec (λd=>
 some d) (λe=>
 some true) c
def qbh_B4(n:Nat)(i:DO)(j:Int)(a:DM)(k:Int)(l:DA)(b:DC)(c:Int)(d:DI)(e:DJ)(f:DK)(g:DC)(h:DD):Option (((DO×Int×DM×Int×DA×DC×Int)×DI×DJ×DK×DC×DD)⊕(EAL⊕EBQ)):=
 bif(decide (c<(aC b)))then
 (aF b c).bind λm=>
 (aF a m).bind λo=>
 bif(!o.1)then
 some (Sum.inr (Sum.inl (false,(d,(e,(f,(g,h)))))))
 else
 (aF b c).bind λp=>
 (aF a p).bind λq=>
 (qbb n l q.2).bind λr=>
 bif(!r)then
 some (Sum.inr (Sum.inl (false,(d,(e,(f,(g,h)))))))
 else
 some (Sum.inl ((i,(j,(a,(k,(l,(b,(aK .i64 c 1))))))),(d,(e,(f,(g,h))))))
 else
 some (Sum.inr (Sum.inr ((i,(j,(a,k))),(d,(e,(f,(g,h)))))))
def qbh_W4(n:Nat)(s:(DO×Int×DM×Int×DA×DC×Int)×DI×DJ×DK×DC×DD):Option (EAL⊕EBQ):=aM (λs=>qbh_B4 n s.1.1 s.1.2.1 s.1.2.2.1 s.1.2.2.2.1 s.1.2.2.2.2.1 s.1.2.2.2.2.2.1 s.1.2.2.2.2.2.2 s.2.1 s.2.2.1 s.2.2.2.1 s.2.2.2.2.1 s.2.2.2.2.2) n s
def qbh_B2(n:Nat)(j:DO)(i:Int)(b:DM)(a:Int)(c:DI)(d:DJ)(e:DK)(f:DC)(g:DD):Option (EBQ⊕(EAL⊕((DO×Int)×DI×DJ×DK×DC×DD))):=
 bif(decide (a<(aC b)))then
 (aF b a).bind λl=>
 bif(decide ((aC l.2)>8))then
 some (Sum.inr (Sum.inl (false,(c,(d,(e,(f,g)))))))
 else
 (aF b a).bind λm=>
 bif(!m.1)then
 some (Sum.inl ((j,(i,(b,(aK .i64 a 1)))),(c,(d,(e,(f,g))))))
 else
 (aF b a).bind λo=>
 (qcd n c d e f g i a o.2).bind λk=>
 bif(k.2.2 !=0)then
 some (Sum.inr (Sum.inl (false,(c,(d,(e,(f,g)))))))
 else
 (qbh_W4 n ((j,(i,(b,(a,(k.1,(k.2.1,0)))))),(c,(d,(e,(f,g)))))).bind λp=>
 Sum.rec (λq=>
 some (Sum.inr (Sum.inl q))) (λh=>
 some (Sum.inl ((h.1.1,(h.1.2.1,(h.1.2.2.1,(aK .i64 h.1.2.2.2 1)))),h.2))) p
 else
 some (Sum.inr (Sum.inr ((j,i),(c,(d,(e,(f,g)))))))
def qbh_W2(n:Nat)(s:EAZ×DI×DJ×DK×DC×DD):Option (EAL⊕((DO×Int)×DI×DJ×DK×DC×DD)):=aM (λs=>qbh_B2 n s.1.1 s.1.2.1 s.1.2.2.1 s.1.2.2.2 s.2.1 s.2.2.1 s.2.2.2.1 s.2.2.2.2.1 s.2.2.2.2.2) n s
def qbh_B0(n:Nat)(h:DO)(f:Int)(b:DI)(a:DJ)(c:DK)(d:DC)(e:DD):Option (((DO×Int)×DI×DJ×DK×DC×DD)⊕(EAL⊕EAA)):=
 bif(decide (f<(aC h)))then
 (aF h f).bind λg=>
 (aF a f).bind λj=>
 bif((aC g) !=(aC j.2.2.2.2))then
 some (Sum.inr (Sum.inl (false,(b,(a,(c,(d,e)))))))
 else
 (aF g 0).bind λk=>
 bif(!k.1)then
 some (Sum.inr (Sum.inl (false,(b,(a,(c,(d,e)))))))
 else
 (aF g 0).bind λl=>
 bif(decide ((aC l.2)>0))then
 some (Sum.inr (Sum.inl (false,(b,(a,(c,(d,e)))))))
 else
 (qbh_W2 n ((h,(f,(g,0))),(b,(a,(c,(d,e)))))).bind λm=>
 Sum.rec (λo=>
 some (Sum.inr (Sum.inl o))) (λi=>
 some (Sum.inl ((i.1.1,(aK .i64 i.1.2 1)),i.2))) m
 else
 some (Sum.inr (Sum.inr (b,(a,(c,(d,e))))))
def qbh_W0(n:Nat)(s:(DO×Int)×DI×DJ×DK×DC×DD):Option (EAL⊕EAA):=aM (λs=>qbh_B0 n s.1.1 s.1.2 s.2.1 s.2.2.1 s.2.2.2.1 s.2.2.2.2.1 s.2.2.2.2.2) n s
def qbh(n:Nat)(b:DI)(a:DJ)(c:DK)(d:DC)(e:DD)(f:DO):Option Bool:=
 (qcb n b a c d e).bind λg=>
 bif(!g)then
 some false
 else
 bif((aC f) !=(aC a))then
 some false
 else
 (qbh_W0 n ((f,0),(b,(a,(c,(d,e)))))).bind λh=>
 Sum.rec (λi=>
 some i.1) (λj=>
 some true) h
def eX(n:Nat)(d c:DO)(a b:Int):Option ((DO×DO×Int×Int)⊕(Bool⊕EAX)):=
 (aF c a).bind λe=>
 bif(decide (b<(aC e)))then
 (aF c a).bind λf=>
 (aF f b).bind λg=>
 bif g.1 then
 (aF d a).bind λh=>
 (aF h b).bind λi=>
 bif(!i.1)then
 some (Sum.inr (Sum.inl false))
 else
 (aF c a).bind λj=>
 (aF j b).bind λk=>
 (aF d a).bind λl=>
 (aF l b).bind λm=>
 (qbb n k.2 m.2).bind λo=>
 bif(!o)then
 some (Sum.inr (Sum.inl false))
 else
 some (Sum.inl (d,(c,(a,(aK .i64 b 1)))))
 else
 some (Sum.inl (d,(c,(a,(aK .i64 b 1)))))
 else
 some (Sum.inr (Sum.inr (d,(c,a))))
def kF(n:Nat)(s:DO×DO×Int×Int):Option (Bool⊕EAX):=aM (λs=>eX n s.1 s.2.1 s.2.2.1 s.2.2.2) n s
def eV(n:Nat)(d b:DO)(c:Int):Option (EAX⊕EAU):=
 bif(decide (c<(aC b)))then
 (kF n (d,(b,(c,0)))).bind λe=>
 Sum.rec (λf=>
 some (Sum.inr (Sum.inl f))) (λa=>
 some (Sum.inl (a.1,(a.2.1,(aK .i64 a.2.2 1))))) e
 else
 some (Sum.inr (Sum.inr ()))
def kH(n:Nat)(s:DO×DO×Int):Option EAU:=aM (λs=>eV n s.1 s.2.1 s.2.2) n s
def j0(n:Nat)(a:DI)(b:DJ)(c:DK)(d:DC)(e:DD)(f:DO):Option Bool:=
 (qaz n a b c d e).bind λh=>
 bif(!h)then
 (qaj n).bind λi=>
 some i
 else
 bif(decide ((aC f)>10))then
 (qaj n).bind λj=>
 some j
 else
 (qat n a b c d e).bind λg=>
 bif(g.2.2.2 !=0)then
 (qaj n).bind λk=>
 bif k then
 (qcb n a b c d e).bind λl=>
 bif l then
 some true
 else
 (qbh n a b c d e f).bind λm=>
 some (!m)
 else
 some false
 else
 (qbh n a b c d e g.1).bind λo=>
 bif(!o)then
 some false
 else
 (qbh n a b c d e f).bind λp=>
 bif(!p)then
 (qaj n).bind λq=>
 some q
 else
 (kH n (f,(g.1,0))).bind λr=>
 Sum.rec (λs=>
 some s) (λu=>
 (qaj n).bind λt=>
 some t) r
def kB(n:Nat)(a:DI)(b:DJ)(c:DK)(d:DC)(e:DD)(f:DO):Option Bool:=
 (qaz n a b c d e).bind λg=>
 bif(!g)then
 (qaj n).bind λh=>
 some h
 else
 bif(decide ((aC f)>10))then
 (qaj n).bind λi=>
 some i
 else
 (qbh n a b c d e f).bind λj=>
 bif(!j)then
 (qaj n).bind λk=>
 some k
 else
 (qat n a b c d e).bind λl=>
 (qaj n).bind λm=>
 bif m then
 some (l.2.2.2==0)
 else
 some false
def qay(n:Nat)(f:DI)(b:DJ)(g:DK)(h:DC)(i:DD)(d j:Int)(k:DA):Option EAB:=
 (aF b d).bind λa=>
 (aF b d).bind λl=>
 (aF l.2.2.2.2 j).bind λc=>
 (qdc n f b g h i a.1 a.2.1 a.2.2.1 a.2.2.2.1 a.2.2.2.2 c.1 c.2.1 c.2.2 k).bind λe=>
 some ((aC e.1.1),(aC e.1.2))
def qcv(n:Nat)(a:DA)(c d:Int)(b:DA)(e:DB):Option Int:=
 some (aK .i64 (aC a) (aC b))
def Ej(n:Nat)(c:DO)(d:Int)(p:DJ)(q r:Int)(s:DB)(t a:Int)(e:DI)(f:DJ)(g:DK)(h:DC)(i:DD)(u:DN)(j:DA)(k l:Int)(m:DA)(o:DB)(b:DG):Option (((DO×Int×DJ×Int×Int×DB×Int×Int)×EAA×DN×EAD×DG)⊕(EBA×EAA×DN×EAD×DG)):=
 bif(decide (a<t))then
 (aF s a).bind λv=>
 (aF c d).bind λy=>
 (aF y a).bind λw=>
 bif(!w.1)then
 some (Sum.inl ((c,(d,(p,(q,(r,(s,(t,(aK .i64 a 1)))))))),((e,(f,(g,(h,i)))),(u,((j,(k,(l,(m,o)))),b)))))
 else
 (qay n e f g h i d a w.2).bind λx=>
 (qcv n j k l m o).bind λz=>
 bif((decide (0≤a))&&(decide (a<(((List.length b):Nat):Int))))then
 bif(Nat.ble ((Int.toNat a)+1) (List.length b))then
 some (Sum.inl ((c,(d,(p,(q,(r,(s,(t,(aK .i64 a 1)))))))),((e,(f,(g,(h,i)))),(u,((j,(k,(l,(m,o)))),(List.set b (Int.toNat a) (v.1,(v.2.1,(v.2.2,((bY .i64 (aK .i64 z (aC w.2)) x.1),x))))))))))
 else none
 else none
 else
 some (Sum.inr ((c,(p,(q,r))),((e,(f,(g,(h,i)))),(u,((j,(k,(l,(m,o)))),b)))))
def LR(n:Nat)(s:(DO×Int×DJ×Int×Int×DB×Int×Int)×EAA×DN×EAD×DG):Option (EBA×EAA×DN×EAD×DG):=aM (λs=>Ej n s.1.1 s.1.2.1 s.1.2.2.1 s.1.2.2.2.1 s.1.2.2.2.2.1 s.1.2.2.2.2.2.1 s.1.2.2.2.2.2.2.1 s.1.2.2.2.2.2.2.2 s.2.1.1 s.2.1.2.1 s.2.1.2.2.1 s.2.1.2.2.2.1 s.2.1.2.2.2.2 s.2.2.1 s.2.2.2.1.1 s.2.2.2.1.2.1 s.2.2.2.1.2.2.1 s.2.2.2.1.2.2.2.1 s.2.2.2.1.2.2.2.2 s.2.2.2.2) n s
def CF(n:Nat)(l:DO)(d:DJ)(e c:Int)(f:DI)(g:DJ)(h:DK)(i:DC)(j:DD)(k:DN):Option ((EBA×EAA×DN)⊕(EAA×DN)):=
 bif(decide (c<e))then
 (aF d c).bind λb=>
 bif((((aC b.2.2.2.2)==(aC b.2.2.2.2))&&(decide (0≤(aC b.2.2.2.2))))&&(Nat.ble (Int.toNat (aC b.2.2.2.2)) 4294967296))then
 (LR n ((l,(c,(d,(e,(c,(b.2.2.2.2,((aC b.2.2.2.2),0))))))),((f,(g,(h,(i,j)))),(k,(b,(List.replicate (Int.toNat (aC b.2.2.2.2)) (0,(0,(0,(0,(0,0))))))))))).bind λa=>
 bif(Nat.ble (List.length (a.2.2.1++(a.2.2.2.2::([]:List (List EAF))))) 4294967296)then
 some (Sum.inl ((a.1.1,(a.1.2.1,(a.1.2.2.1,(aK .i64 a.1.2.2.2 1)))),(a.2.1,(a.2.2.1++(a.2.2.2.2::([]:List (List EAF)))))))
 else none
 else none
 else
 some (Sum.inr ((f,(g,(h,(i,j)))),k))
def Hk(n:Nat)(s:EBA×EAA×DN):Option (EAA×DN):=aM (λs=>CF n s.1.1 s.1.2.1 s.1.2.2.1 s.1.2.2.2 s.2.1.1 s.2.1.2.1 s.2.1.2.2.1 s.2.1.2.2.2.1 s.2.1.2.2.2.2 s.2.2) n s
def TE(n:Nat)(b:DI)(a:DJ)(c:DK)(d:DC)(e:DD)(f:DO):Option DN:=
 (Hk n ((f,(a,((aC a),0))),((b,(a,(c,(d,e)))),([]:List (List EAF))))).bind λg=>
 some g.2
def qbo(n:Nat)(b:DI)(c:DJ)(d:DK)(e:DC)(f:DD):Option (DN×Int):=
 (qat n b c d e f).bind λa=>
 bif(a.2.2.2 !=0)then
 some (([]:List (List EAF)),a.2.2.2)
 else
 (TE n b c d e f a.1).bind λg=>
 some (g,0)
def qdb(n:Nat)(e:DI)(c:DJ)(f:DK)(g:DC)(h:DD)(b:Int):Option Int:=
 bif(decide (b<0))then
 some 0
 else
 bif(decide (b≥(aC c)))then
 some 0
 else
 (aF c b).bind λa=>
 (qcv n a.1 a.2.1 a.2.2.1 a.2.2.2.1 a.2.2.2.2).bind λd=>
 some (aK .i64 d 8)
def qai(n:Nat):Option Bool:=
 (qbo n ([]:List (List EAB)) ((([]:List EAB),(1,(0,(((1,0)::([]:List EAB)),((0,(0,0))::((26,(0,0))::([]:List EAI)))))))::([]:List ((List EAB)×Int×Int×(List EAB)×List EAI))) ([]:List ((List EAB)×Int×Int)) (7::([]:DE)) ([]:DF)).bind λa=>
 bif(a.2==0)then
 bif((aC a.1)==1)then
 (aF a.1 0).bind λb=>
 bif((aC b)==2)then
 (aF a.1 0).bind λc=>
 (aF c 1).bind λd=>
 bif(d.2.2.2.1==1)then
 (aF a.1 0).bind λe=>
 (aF e 1).bind λf=>
 bif(f.2.2.2.2.1==1)then
 (qdb n ([]:List (List EAB)) ((([]:List EAB),(1,(0,(((1,0)::([]:List EAB)),((0,(0,0))::((26,(0,0))::([]:List EAI)))))))::([]:List ((List EAB)×Int×Int×(List EAB)×List EAI))) ([]:List ((List EAB)×Int×Int)) (7::([]:DE)) ([]:DF) 0).bind λg=>
 some (g==9)
 else
 some false
 else
 some false
 else
 some false
 else
 some false
 else
 some false
def fK(n:Nat)(q:DN)(h:DO)(b c:Int)(i:DI)(j:DJ)(k:DK)(l:DC)(m:DD)(d:DA)(o p:Int)(e:DA)(f:DB):Option ((EAR×EAA×DA×Int×Int×DA×DB)⊕(EBF⊕(EBJ⊕(EAS×EAA×DA×Int×Int×DA×DB)))):=
 (aF q b).bind λs=>
 bif(decide (c<(aC s)))then
 (aF q b).bind λt=>
 (aF t c).bind λa=>
 (aF h b).bind λu=>
 (aF u c).bind λv=>
 bif(!v.1)then
 bif(!((a.1==0)&&((a.2.1==0)&&((a.2.2.1==0)&&((a.2.2.2.1==0)&&((a.2.2.2.2.1==0)&&(a.2.2.2.2.2==0)))))))then
 some (Sum.inr (Sum.inl (false,((i,(j,(k,(l,m)))),((d,(o,(p,(e,f)))),a)))))
 else
 some (Sum.inl ((q,(h,(b,(aK .i64 c 1)))),((i,(j,(k,(l,m)))),(d,(o,(p,(e,f)))))))
 else
 (aF f c).bind λg=>
 (aF h b).bind λw=>
 (aF w c).bind λx=>
 (qbt n i j k l m d o p e f g.1 g.2.1 g.2.2 x.2).bind λr=>
 (aF h b).bind λy=>
 (aF y c).bind λz=>
 bif(!((a.1==g.1)&&((a.2.1==g.2.1)&&((a.2.2.1==g.2.2)&&((a.2.2.2.1==(bY .i64 (aK .i64 (aK .i64 (aC d) (aC e)) (aC z.2)) (aC r.1)))&&((a.2.2.2.2.1==(aC r.1))&&(a.2.2.2.2.2==(aC r.2.1))))))))then
 some (Sum.inr (Sum.inr (Sum.inl (false,((i,(j,(k,(l,m)))),((d,(o,(p,(e,f)))),(a,g)))))))
 else
 some (Sum.inl ((q,(h,(b,(aK .i64 c 1)))),((i,(j,(k,(l,m)))),(d,(o,(p,(e,f)))))))
 else
 some (Sum.inr (Sum.inr (Sum.inr ((q,(h,b)),((i,(j,(k,(l,m)))),(d,(o,(p,(e,f)))))))))
def iF(n:Nat)(s:EAR×EAA×DA×Int×Int×DA×DB):Option (EBF⊕(EBJ⊕(EAS×EAA×DA×Int×Int×DA×DB))):=aM (λs=>fK n s.1.1 s.1.2.1 s.1.2.2.1 s.1.2.2.2 s.2.1.1 s.2.1.2.1 s.2.1.2.2.1 s.2.1.2.2.2.1 s.2.1.2.2.2.2 s.2.2.1 s.2.2.2.1 s.2.2.2.2.1 s.2.2.2.2.2.1 s.2.2.2.2.2.2) n s
def fM(n:Nat)(d:DN)(j:DO)(a:Int)(e:DI)(b:DJ)(f:DK)(g:DC)(h:DD):Option (EBN⊕(EBK⊕(EBF⊕(EBJ⊕EAA)))):=
 bif(decide (a<(aC d)))then
 (aF b a).bind λi=>
 (aF d a).bind λk=>
 bif((aC k) !=(aC i.2.2.2.2))then
 some (Sum.inr (Sum.inl (false,((e,(b,(f,(g,h)))),i))))
 else
 (iF n ((d,(j,(a,0))),((e,(b,(f,(g,h)))),i))).bind λl=>
 Sum.rec (λm=>
 some (Sum.inr (Sum.inr (Sum.inl m)))) (λo=>
 Sum.rec (λp=>
 some (Sum.inr (Sum.inr (Sum.inr (Sum.inl p))))) (λc=>
 some (Sum.inl ((c.1.1,(c.1.2.1,(aK .i64 c.1.2.2 1))),c.2.1))) o) l
 else
 some (Sum.inr (Sum.inr (Sum.inr (Sum.inr (e,(b,(f,(g,h))))))))
def fH(n:Nat)(s:EAS×DI×DJ×DK×DC×DD):Option (EBK⊕(EBF⊕(EBJ⊕EAA))):=aM (λs=>fM n s.1.1 s.1.2.1 s.1.2.2 s.2.1 s.2.2.1 s.2.2.2.1 s.2.2.2.2.1 s.2.2.2.2.2) n s
def kT(n:Nat)(c:DI)(b:DJ)(d:DK)(e:DC)(f:DD):Option Bool:=
 (qaz n c b d e f).bind λj=>
 bif(!j)then
 (qai n).bind λk=>
 some k
 else
 (qbo n c b d e f).bind λa=>
 (qbm n c b d e f).bind λg=>
 bif(g==0)then
 (qcb n c b d e f).bind λl=>
 bif(!l)then
 (qai n).bind λm=>
 bif m then
 bif(a.2==1)then
 some ((aC a.1)==0)
 else
 some false
 else
 some false
 else
 bif(g !=0)then
 (qai n).bind λo=>
 bif o then
 bif(a.2==g)then
 some ((aC a.1)==0)
 else
 some false
 else
 some false
 else
 (qbp n c b d e f).bind λh=>
 bif(!h.2)then
 (qai n).bind λp=>
 bif p then
 bif(a.2==4)then
 some ((aC a.1)==0)
 else
 some false
 else
 some false
 else
 bif(a.2 !=0)then
 some false
 else
 bif((aC a.1) !=(aC b))then
 some false
 else
 (fH n ((a.1,(h.1,0)),(c,(b,(d,(e,f)))))).bind λq=>
 Sum.rec (λr=>
 some r.1) (λs=>
 Sum.rec (λt=>
 some t.1) (λu=>
 Sum.rec (λv=>
 some v.1) (λag=>
 (qai n).bind λw=>
 some w) u) s) q
 else
 bif(g !=0)then
 (qai n).bind λx=>
 bif x then
 bif(a.2==g)then
 some ((aC a.1)==0)
 else
 some false
 else
 some false
 else
 (qbp n c b d e f).bind λi=>
 bif(!i.2)then
 (qai n).bind λy=>
 bif y then
 bif(a.2==4)then
 some ((aC a.1)==0)
 else
 some false
 else
 some false
 else
 bif(a.2 !=0)then
 some false
 else
 bif((aC a.1) !=(aC b))then
 some false
 else
 (fH n ((a.1,(i.1,0)),(c,(b,(d,(e,f)))))).bind λz=>
 Sum.rec (λaa=>
 some aa.1) (λab=>
 Sum.rec (λac=>
 some ac.1) (λad=>
 Sum.rec (λae=>
 some ae.1) (λah=>
 (qai n).bind λaf=>
 some af) ad) ab) z
def jN(n:Nat)(g:DN)(h i j:Int)(b:DI)(c:DJ)(d:DK)(e:DC)(f:DD):Option (((DN×Int×Int×Int)×DI×DJ×DK×DC×DD)⊕(EBH⊕((DN×Int)×DI×DJ×DK×DC×DD))):=
 (aF g h).bind λk=>
 bif(decide (j<(aC k)))then
 (aF g h).bind λl=>
 (aF l j).bind λa=>
 bif(decide (a.2.2.2.1<0))then
 some (Sum.inr (Sum.inl (false,((b,(c,(d,(e,f)))),a))))
 else
 bif(decide ((aK .i64 a.2.2.2.1 a.2.2.2.2.1)>i))then
 some (Sum.inr (Sum.inl (false,((b,(c,(d,(e,f)))),a))))
 else
 bif(decide ((aK .i64 a.2.2.2.1 a.2.2.2.2.2)>i))then
 some (Sum.inr (Sum.inl (false,((b,(c,(d,(e,f)))),a))))
 else
 some (Sum.inl ((g,(h,(i,(aK .i64 j 1)))),(b,(c,(d,(e,f))))))
 else
 some (Sum.inr (Sum.inr ((g,h),(b,(c,(d,(e,f)))))))
def mE(n:Nat)(s:(DN×Int×Int×Int)×DI×DJ×DK×DC×DD):Option (EBH⊕((DN×Int)×DI×DJ×DK×DC×DD)):=aM (λs=>jN n s.1.1 s.1.2.1 s.1.2.2.1 s.1.2.2.2 s.2.1 s.2.2.1 s.2.2.2.1 s.2.2.2.2.1 s.2.2.2.2.2) n s
def jG(n:Nat)(h:DN)(a:Int)(b:DI)(c:DJ)(d:DK)(e:DC)(f:DD):Option (((DN×Int)×DI×DJ×DK×DC×DD)⊕(EBH⊕EAA)):=
 bif(decide (a<(aC h)))then
 (qdb n b c d e f a).bind λi=>
 (mE n ((h,(a,(i,0))),(b,(c,(d,(e,f)))))).bind λj=>
 Sum.rec (λk=>
 some (Sum.inr (Sum.inl k))) (λg=>
 some (Sum.inl ((g.1.1,(aK .i64 g.1.2 1)),g.2))) j
 else
 some (Sum.inr (Sum.inr (b,(c,(d,(e,f))))))
def l7(n:Nat)(s:(DN×Int)×DI×DJ×DK×DC×DD):Option (EBH⊕EAA):=aM (λs=>jG n s.1.1 s.1.2 s.2.1 s.2.2.1 s.2.2.2.1 s.2.2.2.2.1 s.2.2.2.2.2) n s
def qV(n:Nat)(b:DI)(c:DJ)(d:DK)(e:DC)(f:DD):Option Bool:=
 (qaz n b c d e f).bind λh=>
 bif(!h)then
 (qai n).bind λi=>
 some i
 else
 (qbo n b c d e f).bind λg=>
 bif(g.2 !=0)then
 (qai n).bind λj=>
 some j
 else
 (l7 n ((g.1,0),(b,(c,(d,(e,f)))))).bind λk=>
 Sum.rec (λl=>
 some l.1) (λa=>
 (qai n).bind λm=>
 bif m then
 (qdb n a.1 a.2.1 a.2.2.1 a.2.2.2.1 a.2.2.2.2 (Neg.neg 1)).bind λo=>
 bif(o==0)then
 (qdb n a.1 a.2.1 a.2.2.1 a.2.2.2.1 a.2.2.2.2 (aC a.2.1)).bind λp=>
 some (p==0)
 else
 some false
 else
 some false) k
def f9(n:Nat)(a:DN)(m:DO)(b c:Int)(d:DC)(e:Int)(f:DI)(g:DJ)(h:DK)(i:DC)(j:DD):Option (((DN×DO×Int×Int×DC×Int)×DI×DJ×DK×DC×DD)⊕(EBE⊕EBR)):=
 bif(decide (e<(aC d)))then
 (aF a b).bind λo=>
 (aF o c).bind λk=>
 (aF a b).bind λp=>
 (aF d e).bind λq=>
 (aF p q).bind λl=>
 bif((aK .i64 k.2.2.2.1 k.2.2.2.2.2) !=(aK .i64 l.2.2.2.1 l.2.2.2.2.1))then
 some (Sum.inr (Sum.inl (false,((f,(g,(h,(i,j)))),(k,l)))))
 else
 some (Sum.inl ((a,(m,(b,(c,(d,(aK .i64 e 1)))))),(f,(g,(h,(i,j))))))
 else
 some (Sum.inr (Sum.inr ((a,(m,(b,c))),(f,(g,(h,(i,j)))))))
def iZ(n:Nat)(s:(DN×DO×Int×Int×DC×Int)×DI×DJ×DK×DC×DD):Option (EBE⊕EBR):=aM (λs=>f9 n s.1.1 s.1.2.1 s.1.2.2.1 s.1.2.2.2.1 s.1.2.2.2.2.1 s.1.2.2.2.2.2 s.2.1 s.2.2.1 s.2.2.2.1 s.2.2.2.2.1 s.2.2.2.2.2) n s
def fY(n:Nat)(e:DN)(c:DO)(a b:Int)(f:DI)(g:DJ)(h:DK)(i:DC)(j:DD):Option (EBR⊕(EBE⊕EBN)):=
 (aF e a).bind λk=>
 bif(decide (b<(aC k)))then
 (aF c a).bind λl=>
 (aF l b).bind λm=>
 bif(!m.1)then
 some (Sum.inl ((e,(c,(a,(aK .i64 b 1)))),(f,(g,(h,(i,j))))))
 else
 (aF c a).bind λo=>
 (aF o b).bind λp=>
 (qcd n f g h i j a b p.2).bind λq=>
 (iZ n ((e,(c,(a,(b,(q.2.1,0))))),(f,(g,(h,(i,j)))))).bind λr=>
 Sum.rec (λs=>
 some (Sum.inr (Sum.inl s))) (λd=>
 some (Sum.inl ((d.1.1,(d.1.2.1,(d.1.2.2.1,(aK .i64 d.1.2.2.2 1)))),d.2))) r
 else
 some (Sum.inr (Sum.inr ((e,(c,a)),(f,(g,(h,(i,j)))))))
def iY(n:Nat)(s:EAR×DI×DJ×DK×DC×DD):Option (EBE⊕EBN):=aM (λs=>fY n s.1.1 s.1.2.1 s.1.2.2.1 s.1.2.2.2 s.2.1 s.2.2.1 s.2.2.2.1 s.2.2.2.2.1 s.2.2.2.2.2) n s
def fX(n:Nat)(b:DN)(i:DO)(c:Int)(d:DI)(e:DJ)(f:DK)(g:DC)(h:DD):Option (EBN⊕(EBE⊕EAA)):=
 bif(decide (c<(aC b)))then
 (iY n ((b,(i,(c,0))),(d,(e,(f,(g,h)))))).bind λj=>
 Sum.rec (λk=>
 some (Sum.inr (Sum.inl k))) (λa=>
 some (Sum.inl ((a.1.1,(a.1.2.1,(aK .i64 a.1.2.2 1))),a.2))) j
 else
 some (Sum.inr (Sum.inr (d,(e,(f,(g,h))))))
def iX(n:Nat)(s:EAS×DI×DJ×DK×DC×DD):Option (EBE⊕EAA):=aM (λs=>fX n s.1.1 s.1.2.1 s.1.2.2 s.2.1 s.2.2.1 s.2.2.2.1 s.2.2.2.2.1 s.2.2.2.2.2) n s
def lZ(n:Nat)(a:DI)(b:DJ)(c:DK)(d:DC)(e:DD):Option Bool:=
 (qaz n a b c d e).bind λg=>
 bif(!g)then
 (qai n).bind λh=>
 some h
 else
 (qbo n a b c d e).bind λf=>
 bif(f.2 !=0)then
 (qai n).bind λi=>
 some i
 else
 (qbp n a b c d e).bind λj=>
 (iX n ((f.1,(j.1,0)),(a,(b,(c,(d,e)))))).bind λk=>
 Sum.rec (λl=>
 some l.1) (λo=>
 (qai n).bind λm=>
 some m) k
end
end Sx
