import Derived.Test.YtjjjbgicidhpfaaDoorLib6
set_option linter.unusedVariables false
set_option linter.unusedSectionVars false
namespace Go.Ab
noncomputable section
inductive Sh where
 |int (k:IntKind)|bool|str
 |nilS|nilP|undef
 |sl (β ag:Bool) (T:Ty)
 |el (β ag:Bool) (T:Ty) (c:Nat)
 |ptr (b g i c:Nat)
 |ptrI (b g c:Nat)
 |ms (b g:Nat)
 |msw (b g:Nat)
 |fn (f:FuncId) (fi ca:Sh)
 |agg (l:Sh)
 |tup (l:Sh)
 |nil
 |cons (a b:Sh)
 |bnone
 |bts (gen:Nat) (frz β ag:Bool) (T:Ty)
 |bcells (gen:Nat) (frz:Bool) (e:Nat) (l:Sh)
 |bos (gen:Nat) (frz:Bool) (T:Ty) (l:Sh)
def P2(ua ub:Bool)(A B:Type):Type:=Bool.rec (Bool.rec (A×B) A ub) B ua
def P2.mk{A B:Type}:(ua ub:Bool)->A->B->P2 ua ub A B
 |true,_,_,b=>b
 |false,true,a,_=>a
 |false,false,a,b=>(a,b)
def P2.fst{A B:Type}(da:A):(ua ub:Bool)->P2 ua ub A B->A
 |true,_,_=>da
 |false,true,p=>p
 |false,false,p=>p.1
def P2.snd{A B:Type}(db:B):(ua ub:Bool)->P2 ua ub A B->B
 |true,_,p=>p
 |false,true,_=>db
 |false,false,p=>p.2
def Sh.un(s:Sh):Bool:=
 Sh.rec (λ_=>false) false false true true true (λ_ _ _=>false) (λ_ _ _ _=>false) (λ_ _ _ _=>true) (λ_ _ _=>false) (λ_ _=>false) (λ_ _=>true)
  (λ_ _ _ a b=>Id a b) (λ_ a=>a) (λ_ a=>a) true (λ_ _ a b=>Id a b) true (λ_ _ _ _ _=>false) (λ_ _ _ _ a=>a) (λ_ _ _ _ _=>false) s
def Sh.den(s:Sh):Type:=
 Sh.rec (λ_=>Int) Bool ByteArray Unit Unit Unit (λ_ _ T=>List (Go.Ab.den T)) (λ_ _ T _=>Go.Ab.den T) (λ_ _ _ _=>Unit) (λ_ _ _=>Nat) (λ_ _=>Nat×Nat) (λ_ _=>Unit)
  (λ_ fi ca a b=>P2 fi.un ca.un a b) (λ_ a=>a) (λ_ a=>a) Unit (λa b x y=>P2 a.un b.un x y) Unit (λ_ _ _ _ T=>List (Go.Ab.den T)) (λ_ _ _ _ a=>a) (λ_ _ T l a=>P2 false l.un (List (Go.Ab.den T)) a) s
def Sh.dflt:(s:Sh)->s.den
 | .int _=>(0:Int)
 | .bool=>false
 | .str=>ByteArray.empty
 | .nilS| .nilP| .undef| .ptr _ _ _ _| .msw _ _| .nil| .bnone=>()
 | .sl _ _ _=>([]:List _)
 | .el _ _ T _=>dT T
 | .ptrI _ _ _=>(0:Nat)
 | .ms _ _=>((0,0):Nat×Nat)
 | .fn _ fi ca=>P2.mk _ _ fi.dflt ca.dflt
 | .agg l=>l.dflt
 | .tup l=>l.dflt
 | .cons a b=>P2.mk _ _ a.dflt b.dflt
 | .bts _ _ _ _ _=>([]:List _)
 | .bcells _ _ _ l=>l.dflt
 | .bos _ _ _ l=>P2.mk false l.un [] l.dflt
 where
 dT:(T:Ty)->Go.Ab.den T
 | .int _=>(0:Int)
 | .bool=>false
 | .str=>ByteArray.empty
 | .sl _ _=>([]:List _)
 | .cons a b=>(dT a,dT b)
def gU(a b:Nat):Bool:=Nat.beq a b
def eU(nz:Bool):(s:Sh)->List KV->Option s.den
 | .int k,vs=>(match vs with| [.lit (.int k' x)]=>bif iK k k' then some x else none|_=>none)
 | .bool,vs=>(match vs with| [.lit (.bool x)]=>some x|_=>none)
 | .str,vs=>(match vs with| [.lit (.string x)]=>some x|_=>none)
 | .nilS,vs=>(match vs with| [.lit (.slice none 0 0)]=>some ()|_=>none)
 | .nilP,vs=>(match vs with| [.lit (.pointer none)]=>some ()|_=>none)
 | .undef,vs=>(match vs with| [.lit (.tuple a)]=>(match a.toList with| []=>some ()|_=>none)|_=>none)
 | .sl β ag T,vs=>(match vs with
  | [.tsl β' ag' T' xs]=>bif(eP β β'||(nz&&β))&&eP ag ag' then q9 T' T xs else none
  | [.lit (.slice none 0 0)]=>bif nz then some []else none
  |_=>none)
 | .el β ag T c,vs=>(match vs with
  | [.el β' ag' T' x c']=>bif(eP β β'||(nz&&β))&&eP ag ag'&&gU c c' then IL (F:=Go.Ab.den) (Ty.beq T' T) rfl x else none
  |_=>none)
 | .ptr b g i c,vs=>(match vs with| [.ptr b' g' i' c']=>bif gU b b'&&gU g g'&&gU i i'&&gU c c' then some ()else none|_=>none)
 | .ptrI b g c,vs=>(match vs with| [.ptr b' g' i c']=>bif gU b b'&&gU g g'&&gU c c' then some i else none|_=>none)
 | .ms b g,vs=>(match vs with| [.ms b' g' o n]=>bif gU b b'&&gU g g' then some (o,n)else none|_=>none)
 | .msw b g,vs=>(match vs with| [.msw b' g']=>bif gU b b'&&gU g g' then some ()else none|_=>none)
 | .fn f fi ca,vs=>(match vs with
  | [.fn (.func f') fi' ca']=>bif gU f f' then
    (match eU nz fi fi' with
    |some x=>(match eU nz ca ca' with|some y=>some (P2.mk _ _ x y)|none=>none)
    |none=>none)else none
  |_=>none)
 | .agg l,vs=>(match vs with| [.agg cs]=>eU nz l cs|_=>none)
 | .tup l,vs=>(match vs with| [.tup cs]=>eU nz l cs|_=>none)
 | .nil,vs=>(match vs with| []=>some ()|_=>none)
 | .cons a b,vs=>(match vs with
  |v::r=>
   (match eU nz a [v] with
   |some x=>(match eU nz b r with|some y=>some (P2.mk _ _ x y)|none=>none)
   |none=>none)
  | []=>none)
 | .bnone,_=>none
 | .bts _ _ _ _ _,_=>none
 | .bcells _ _ _ _,_=>none
 | .bos _ _ _ _,_=>none
def dN:(s:Sh)->s.den->List KV
 | .int k,x=> [.lit (.int k x)]
 | .bool,x=> [.lit (.bool x)]
 | .str,x=> [.lit (.string x)]
 | .nilS,_=> [.lit (.slice none 0 0)]
 | .nilP,_=> [.lit (.pointer none)]
 | .undef,_=> [.lit (.tuple #[])]
 | .sl β ag T,xs=> [.tsl β ag T xs]
 | .el β ag T c,x=> [.el β ag T x c]
 | .ptr b g i c,_=> [.ptr b g i c]
 | .ptrI b g c,i=> [.ptr b g i c]
 | .ms b g,p=> [.ms b g (Prod.fst p) (Prod.snd p)]
 | .msw b g,_=> [.msw b g]
 | .fn f fi ca,p=> [.fn (.func f) (dN fi (P2.fst fi.dflt _ _ p)) (dN ca (P2.snd ca.dflt _ _ p))]
 | .agg l,p=> [.agg (dN l p)]
 | .tup l,p=> [.tup (dN l p)]
 | .nil,_=> []
 | .cons a b,p=>dN a (P2.fst a.dflt _ _ p)++dN b (P2.snd b.dflt _ _ p)
 | .bnone,_=> []
 | .bts _ _ _ _ _,_=> []
 | .bcells _ _ _ _,_=> []
 | .bos _ _ _ _,_=> []
def lH:c7->List KV
 | []=> []
 |h::r=> .agg [.ptr 0 0 h.1 h.2.1,h.2.2]::lH r
def Uo:KV->Option (Nat×Nat×KV)
 | .agg cs=>(match cs with
  | [a,v]=>(match a with| .ptr _ _ i c=>some (i,c,v)|_=>none)
  |_=>none)
 |_=>none
def jF:List KV->c7
 | []=> []
 |v::r=>(match Uo v with|some h=>h::jF r|none=>jF r)
def BI(nz:Bool):(s:Sh)->aF->Option s.den
 | .nil,m=>(match m with| []=>some ()|_=>none)
 | .cons a b,m=>(match m with
  |x::r=>
   (match BI nz a [x] with
   |some x=>(match BI nz b r with|some y=>some (P2.mk _ _ x y)|none=>none)
   |none=>none)
  | []=>none)
 | .bnone,m=>(match m with| [none]=>some ()|_=>none)
 | .bts gen frz β ag T,m=>(match m with
  | [some ⟨gen',frz',.ts β' ag' T' xs⟩]=>bif gU gen gen'&&eP frz frz'&&eP β β'&&eP ag ag' then q9 T' T xs else none
  |_=>none)
 | .bcells gen frz e l,m=>(match m with
  | [some ⟨gen',frz',.cells e' cs⟩]=>bif gU gen gen'&&eP frz frz'&&gU e e' then eU false l cs else none
  |_=>none)
 | .bos gen frz T l,m=>(match m with
  | [some ⟨gen',frz',.os T' xs hs⟩]=>bif gU gen gen'&&eP frz frz' then
    (match q9 T' T xs with
    |some ys=>(match eU false l (lH hs)with|some p=>some (P2.mk false l.un ys p)|none=>none)
    |none=>none)else none
  |_=>none)
 |_,_=>none
def gX:(s:Sh)->s.den->aF
 | .nil,_=> []
 | .cons a b,p=>gX a (P2.fst a.dflt _ _ p)++gX b (P2.snd b.dflt _ _ p)
 | .bnone,_=> [none]
 | .bts gen frz β ag T,xs=> [some ⟨gen,frz,.ts β ag T xs⟩]
 | .bcells gen frz e l,p=> [some ⟨gen,frz,.cells e (dN l p)⟩]
 | .bos gen frz T l,p=> [some ⟨gen,frz,.os T (P2.fst (A:=List (Go.Ab.den T)) [] false l.un p) (jF (dN l (P2.snd l.dflt false l.un p)))⟩]
 |_,_=> []
structure mT where
 ex:MX
 slots:List Nat
 sh:Sh
 msh:Sh
def mT.den(s:mT):Type:=P2 s.sh.un s.msh.un s.sh.den s.msh.den
def dW:List Nat->List KV->Nat->KV
 |s::ss,v::vs=>λt=>bif Nat.beq t s then v else dW ss vs t
 |_,_=>λ_=> .gone
def kQ(env:Nat->KV):List Nat->List KV
 | []=> []
 |s::r=>env s::kQ env r
def Gm:MX->MX->Bool
 | .normal,.normal=>true
 | .exit a,.exit b=>Nat.beq a b
 | .goto a,.goto b=>Nat.beq a b
 | .ret,.ret=>true
 |_,_=>false
def o5(nz:Bool)(s:mT)(st:zX):Option s.den:=
 match eU nz s.sh (kQ st.env s.slots)with
 |some x=>(match BI nz s.msh st.mem with|some y=>some (P2.mk _ _ x y)|none=>none)
 |none=>none
def wK(s:mT)(d:s.den):zX:=⟨dW s.slots (dN s.sh (P2.fst s.sh.dflt _ _ d)),gX s.msh (P2.snd s.msh.dflt _ _ d)⟩
def eN:List mT->Type
 | []=>Empty
 | [a]=>a.den
 |a::b::r=>a.den⊕eN (b::r)
def wT(nz:Bool):(l:List mT)->MX->zX->Option (eN l)
 | [],_,_=>none
 | [a],e,st=>bif Gm a.ex e then o5 nz a st else none
 |a::b::r,e,st=>match(bif Gm a.ex e then o5 nz a st else none)with
  |some x=>some (Sum.inl x)
  |none=>(match wT nz (b::r) e st with|some y=>some (Sum.inr y)|none=>none)
def Dp{R:Type}(I:UU R):(l:List mT)->eN l->(MX->zX->Option R)->Option R
 | [],_,_=>none
 | [a],d,k=>k a.ex (wK a d)
 |a::b::r,d,k=>I.sum d (λx=>k a.ex (wK a x)) (λy=>Dp I (b::r) y k)
structure aE where
 a:mT
 r:List mT
 sh:a.den->Option (eN r)
structure aT where
 heads:List mT
 outs:List mT
 run:eN heads->Option (eN outs)
def aY{S X:Type}(B:S->Option (S⊕X))(n:Nat):S->Option X:=
 Nat.rec (λ_=>none) (λ_ ih s=>(B s).bind λq=>Sum.rec (λs'=>ih s') (λx=>some x) q) n
section
variable {R:Type} (I:UU R) (tab:TypeId->Option TI)
def dR:Nat->List Nat->Bool
 |_,[]=>true
 |n,a::r=>Nat.ble n a&&dR (a+1) r
variable [cF]
def OL(boxed vars:Bool)(t:TypeId)(rs:Nat)(env:Nat->KV)(x:Operand)(k:bC->Option R):Option R:=
 bif kI x&&boxed&&!vars then
  (match tab t with
  |some ti=>(match ti.tk with| .sl et=>wB tab et λrow=>k ⟨.msw rs 0,[],[(rs,⟨0,false,row⟩)],[]⟩|_=>none)
  |none=>none)
 else eZ env x λv=>
  match v with
  | .lit (.slice none 0 0)=>
   bif boxed then k (gV v)else
   (match tab t with
   |some ti=>(match ti.tk with| .sl et=>wB tab et λrow=>(match row with| .ts β ag T xs=>k (gV (.tsl β ag T xs))|_=>none)|_=>none)
   |none=>none)
  |v=>k (gV v)
def Sq(c a b:KV)(k:KV->Option R):Option R:=
 match c with
 | .lit (.bool t)=>
  match a,b with
  | .lit (.bool x),.lit (.bool y)=>k (.lit (.bool (bif t then x else y)))
  |_,_=>I.ite t (k a) (k b)
 |_=>none
def Gz(boxed:Bool)(src dst:TypeId)(mem:aF)(rs:Nat)(x:KV)(k:bC->Option R):Option R:=
 match tab src,tab dst with
 |some s,some d=>
  match s.tk,d.tk with
  | .int _,.int kd=>(match x with| .lit (.int _ n)=>k (gV (.lit (.int kd (jT kd n))))|_=>none)
  | .str,.str=>(match x with| .lit (.string b)=>k (gV (.lit (.string b)))|_=>none)
  | .sl e,.str=>
   (match tab e with
   |some te=>
    (match te.tk with
    | .int ke=>bif iK ke .u8&&Nat.beq te.n 1&&Gu tab src x then Mc I tab e mem x λrow rd=>
      (match row with
      | .ts _ ag (.int ke') xs=>bif iK ke' .u8&&!ag then k ⟨.lit (.string (qW xs)),rd,[],[]⟩else none
      |_=>none)else none
    |_=>none)
   |none=>none)
  | .sl _,.sl e=>
   (match tab e, x with
   |some te,.msw b g=>
    (match te.tk with
    | .int ke=>bif iK ke .u8&&Nat.beq src dst then oX mem b g λx=>I.guard (Nat.ble 1 (fD x.row)) (k ⟨.msw b g,[b],[],[]⟩)else none
    |_=>none)
   |_,_=>none)
  |_,_=>none
 |_,_=>none
def rA(mem:aF)(t:TypeId)(v:KV)(k:KV->List Nat->Option R):Option R:=
 match v with
 | .msw _ _| .ms _ _ _ _=>
  (match tab t with
  |some ti=>bif ti.ag then none else(match ti.ty with
   |some (.sl ag T)=>zW I mem (.sl ag T) [v] λxs _ l=>k (.tsl true ag T xs) l
   |_=>none)
  |none=>none)
 | .agg cs=>bif hasMsK cs then
   (match tab t with
   |some ti=>(match ti.ty with|some T=>lendCellsK mem (c8 T) cs λvs l=>k (.agg vs) l|none=>none)
   |none=>none)
  else k (.agg cs) []
 |v=>k v []
 where
 hasMsK:List KV->Bool
  | []=>false
  | .msw _ _::_=>true
  | .ms _ _ _ _::_=>true
  |_::r=>hasMsK r
 lendCellsK (mem:aF):List Ty->List KV->(List KV->List Nat->Option R)->Option R
  | [],[],k=>k [] []
  |T::Ts,v::vs,k=>
   (match v with
   | .msw _ _| .ms _ _ _ _=>
    (match T with
    | .sl ag T=>zW I mem (.sl ag T) [v] λxs _ l=>lendCellsK mem Ts vs λws l'=>k (.tsl true ag T xs::ws) (l++l')
    |_=>none)
   |v=>lendCellsK mem Ts vs λws l'=>k (v::ws) l')
  |_,_,_=>none
def Bh(mem:aF):List TypeId->List KV->(List KV->List Nat->Option R)->Option R
 | [],[],k=>k [] []
 |t::ts,v::vs,k=>rA I tab mem t v λw l=>Bh mem ts vs λws l'=>k (w::ws) (l++l')
 |_,_,_=>none
def oV(mem sub:aF)(ids:List Nat):kY:=λb g=>
  (match eO ids b with
  |some a=>(match eO sub b,wX mem a with
   |some (some x),some h=>bif Nat.beq x.gen g then some (a,h+x.gen)else none
   |_,_=>none)
  |none=>bif Nat.beq g 0&&Nat.blt b sub.length then some (mem.length+(b-ids.length),0)else none)
def jN(f:kY)(mem:aF):List Nat->aF->List (Nat×dE)
 |a::ids,some x::r=>(a,⟨(match wX mem a with|some h=>h+x.gen|none=>0),x.frz,x.row.ren f⟩)::jN f mem ids r
 |_::ids,none::r=>jN f mem ids r
 |_,_=> []
def yX(f:kY):aF->aF
 | []=> []
 |some x::r=>some ⟨0,x.frz,x.row.ren f⟩::yX f r
 |none::r=>none::yX f r
variable (tbl:FuncId->List aE)
def kZ:Sh->List KV->Bool
 | .int _,vs=>(match vs with| [.lit (.int _ _)]=>true|_=>false)
 | .bool,vs=>(match vs with| [.lit (.bool _)]=>true|_=>false)
 | .str,vs=>(match vs with| [.lit (.string _)]=>true|_=>false)
 | .nilS,vs=>(match vs with| [.lit (.slice none 0 0)]=>true|_=>false)
 | .nilP,vs=>(match vs with| [.lit (.pointer none)]=>true|_=>false)
 | .undef,vs=>(match vs with| [.lit (.tuple _)]=>true|_=>false)
 | .sl _ _ _,vs=>(match vs with| [.tsl _ _ _ _]=>true| [.lit (.slice none 0 0)]=>true|_=>false)
 | .el _ _ _ c,vs=>(match vs with| [.el _ _ _ _ c']=>gU c c'|_=>false)
 | .ptr b g i c,vs=>(match vs with| [.ptr b' g' i' c']=>gU b b'&&gU g g'&&gU i i'&&gU c c'|_=>false)
 | .ptrI b g c,vs=>(match vs with| [.ptr b' g' _ c']=>gU b b'&&gU g g'&&gU c c'|_=>false)
 | .ms b g,vs=>(match vs with| [.ms b' g' _ _]=>gU b b'&&gU g g'|_=>false)
 | .msw b g,vs=>(match vs with| [.msw b' g']=>gU b b'&&gU g g'|_=>false)
 | .fn f fi ca,vs=>(match vs with| [.fn (.func f') fi' ca']=>gU f f'&&kZ fi fi'&&kZ ca ca'|_=>false)
 | .agg l,vs=>(match vs with| [.agg cs]=>kZ l cs|_=>false)
 | .tup l,vs=>(match vs with| [.tup cs]=>kZ l cs|_=>false)
 | .nil,vs=>(match vs with| []=>true|_=>false)
 | .cons a b,vs=>(match vs with|v::r=>kZ a [v]&&kZ b r| []=>false)
 | .bnone,_=>false
 | .bts _ _ _ _ _,_=>false
 | .bcells _ _ _ _,_=>false
 | .bos _ _ _ _,_=>false
def Dy:Sh->aF->Bool
 | .nil,m=>(match m with| []=>true|_=>false)
 | .cons a b,m=>(match m with|x::r=>Dy a [x]&&Dy b r| []=>false)
 | .bnone,m=>(match m with| [none]=>true|_=>false)
 | .bts gen frz _ _ _,m=>(match m with| [some ⟨gen',frz',.ts _ _ _ _⟩]=>gU gen gen'&&eP frz frz'|_=>false)
 | .bcells gen frz e l,m=>(match m with| [some ⟨gen',frz',.cells e' cs⟩]=>gU gen gen'&&eP frz frz'&&gU e e'&&kZ l cs|_=>false)
 | .bos gen frz _ l,m=>(match m with| [some ⟨gen',frz',.os _ _ hs⟩]=>gU gen gen'&&eP frz frz'&&kZ l (lH hs)|_=>false)
 |_,_=>false
def Tu(g:FuncId)(args:List KV)(mem:aF)(k:KV->aF->Option R):List aE->Option R
 | []=>I.ask g args mem k
 |E::r=>bif kZ E.a.sh args&&Dy E.a.msh mem then
   (match o5 true E.a ⟨dW E.a.slots args, mem⟩ with
   |some a=>bif Nat.beq args.length E.a.slots.length then I.bind (E.sh a) λb=>Dp I E.r b λ_ st=>k (st.env 0) st.mem else none
   |none=>none)
  else Tu g args mem k r
def UQ(g:FuncId)(args:List KV)(mem:aF)(k:KV->aF->Option R):Option R:=Tu I g args mem k (tbl g)
def RQ(keep:Bool)(mem:aF)(ts:List TypeId)(vs:List KV)(k:List KV->List Nat->Option R):Option R:=bif keep then k vs []else Bh I tab mem ts vs k
def RC(raw keep:Bool)(g:FuncId)(ts:List TypeId)(fi args ca:List KV)(mem:aF)(k:bC->Option R):Option R:=
 RQ I tab keep mem ts args λla lb=>
 let all:=fi++la++ca
 let ids:=yI mem (lA mem (KV.refsAll all).length) (KV.refsAll all) []
 bif dY ids&&w9 lb ids then
  UQ I tbl g (KV.renAll (oB 0 true mem ids) all) (qT 0 true (oB 0 true mem ids) mem 0 ids) λv sub=>
  let m:=ids.length
  let r:=bif raw then v else zE m sub v
  bif Nat.ble m sub.length&&(fZ lb||!(v.lent||v9 sub))then
   bif gB m r.refs&&gB m (jD (sub.take m))then
    k ⟨r.ren (oV mem (sub.take m) ids),lb++ids,jN (oV mem (sub.take m) ids) mem ids sub,[]⟩
   else
    k ⟨v.ren (oV mem sub ids),lb++ids,jN (oV mem sub ids) mem ids sub,yX (oV mem sub ids) (sub.drop m)⟩
  else none
 else none
def RD(mem:aF)(t tx:TypeId)(rs:Nat)(n:Int)(k:bC->Option R):Option R:=
 match tab tx with
 |some tix=>(match tix.tk with
  | .int _=>vG tab t λet te=>
   (match te.ty with
   |some T=>bif Nat.ble 1 te.n&&Nat.ble te.bytes 4096&&Nat.beq te.n T.size&&Nat.beq te.zero.length te.n&&!(a6 te.ag T)then
     zW I mem T (te.zero.map .lit) λz β l=>bif !(fZ l)then none else I.guard (decide (1≤n)&&Nat.ble n.toNat bJ) (k ⟨.msw rs 0,[],[(rs,⟨0,false,.ts β te.ag T (List.replicate n.toNat z)⟩)],[]⟩)
    else none
   |none=>none)
  |_=>none)
 |none=>none
def Br(boxed vars:Bool)(b:Builtin)(ts:List TypeId)(mem:aF)(rs:Nat)(args:List KV)(k:bC->Option R):Option R:=
 match b with
 | .len=>(match ts,args with| [t],[x]=>Up tab t mem x λn rd=>k ⟨.lit (.int .i64 n),rd,[],[]⟩|_,_=>none)
 | .append=>(match ts,args with| [t,tx],[x,y]=>(match x,y with| .lit (.slice none 0 0),.lit (.int _ n)=>RD I tab mem t tx rs n k|_,_=>JV I tab boxed vars t tx mem rs x y k)|_,_=>none)
 | .cap=>(match ts,args with| [t],[.lit (.slice none 0 0)]=>(match tab t with|some ti=>(match ti.tk with| .sl _=>k (gV (.lit (.int .i64 0)))|_=>none)|none=>none)|_,_=>none)
 | .min=>(match args with| .lit (.int kd a)::r=>(match vS TH kd r a with|some v=>k (gV (.lit (.int kd v)))|none=>none)|_=>none)
 | .max=>(match args with| .lit (.int kd a)::r=>(match vS L6 kd r a with|some v=>k (gV (.lit (.int kd v)))|none=>none)|_=>none)
 |_=>none
def BX(k:IntKind):List KV->Option (List Int)
 | []=>some []
 | .lit (.int k' x)::r=>bif iK k k' then(match BX k r with|some xs=>some (x::xs)|none=>none)else none
 |_::_=>none
def vV(boxed vars:Bool)(env:Nat->KV)(mem:aF)(rs:Nat)(t:TypeId)(len:Nat)(parts:Array (Nat×Operand))(k:bC->Option R):Option R:=
 vG tab t λet te=>CK env parts.toList λps=>
 let z:=e8 te
 let vs:=s7 (List.replicate len z) ps
 bif vU len ps&&Nat.ble len 4096&&Nat.ble 1 te.n&&Nat.ble te.n 4096&&qR te.n (z::ps.map (·.2))&&qR te.n vs then
  match te.tk with
  | .int kd=>bif Nat.beq te.n 1 then(match BX kd vs with|some xs=>IW (boxed||Nat.beq len 0) rs (.ts false false (.int kd) xs) [] [] k|none=>none)else none
  |_=>bif vars then(bif vE (lV vs)then IW (boxed||Nat.beq len 0) rs (.cells te.n (lV vs)) [] [] k else none)
   else(match te.ty with
    |some T=>JU I mem te.ag T vs λxs β l=>IW (boxed||Nat.beq len 0) rs (.ts β te.ag T xs) l (nP mem l) k
    |none=>none)
 else none
def A3(boxed:Bool)(mem:aF)(t:TypeId)(rs:Nat)(l c:KV)(k:bC->Option R):Option R:=
 vG tab t λet te=>
 match l,c with
 | .lit (.int _ n),.lit (.int _ n')=>
  (match te.ty with
  |some T=>bif Nat.ble 1 te.n&&Nat.ble te.bytes 4096&&Nat.beq te.n T.size&&Nat.beq te.zero.length te.n then
    zW I mem T (te.zero.map .lit) λz β l=>bif !(fZ l)then none else I.guard ((n==n')&&decide (0≤n)&&Nat.ble n.toNat bJ) (IW boxed rs (.ts β te.ag T (List.replicate n.toNat z)) [] [] k)
   else none
  |none=>none)
 |_,_=>none
def J8(t:TypeId)(x ix:KV)(k:bC->Option R):Option R:=
 match x,ix with
 | .agg cs,.lit (.int _ i)=>
  (match tab t with
  |some ti=>(match ti.tk with
   | .arr n e=>(match tab e with
    |some te=>bif !te.ag&&Nat.beq te.n 1 then I.guard (decide (0≤i)&&decide (i<(n:Int))) (Sb I i.toNat cs 0 λv=>k (gV v))else none
    |none=>none)
   |_=>none)
  |none=>none)
 | .lit (.string s),.lit (.int _ i)=>
  (match tab t with
  |some ti=>(match ti.tk with
   | .str=>I.get (dZ s) i λn=>k (gV (.lit (.int .u8 n)))
   |_=>none)
  |none=>none)
 |_,_=>none
def Lc(boxed raw vars:Bool)(o:Oper)(env:Nat->KV)(mem:aF)(rs:Nat)(k:bC->Option R):Option R:=
 match o.op with
 | .move x=>OL tab boxed vars o.type rs env x k
 | .assign x=>OL tab boxed vars o.type rs env x k
 | .pick c a b=>eZ env c λc=>eZ env a λa=>eZ env b λb=>Sq I c a b λv=>k (gV v)
 | .alloc t=>(match tab t with|some ti=>bif Nat.ble 1 ti.zero.length&&vE (ti.zero.map .lit)then k ⟨.ptr rs 0 0 0,[],[(rs,⟨0,false,.cells 1 (ti.zero.map .lit)⟩)],[]⟩else none|none=>none)
 | .box t x=>eZ env x λv=>(match tab t with|some ti=>bif Nat.beq v.cells.length ti.n&&Nat.ble 1 ti.n&&vE v.cells then k ⟨.ptr rs 0 0 0,[],[(rs,⟨0,false,.cells 1 v.cells⟩)],[]⟩else none|none=>none)
 | .build t parts=>CK env parts.toList λps=>
  (match tab t with
  |some ti=>
   (match ti.tk with
   | .st fs=>(match Ef (λi=>match eO fs i with|some q=>some (q.1,q.2.1)|none=>none) (e8 ti).cells ps with|some cs=>k (gV (.agg cs))|none=>none)
   | .arr _ e=>(match tab e with|some te=>(match Ef (λi=>some (i*te.n,te.n)) (e8 ti).cells ps with|some cs=>k (gV (.agg cs))|none=>none)|none=>none)
   |_=>none)
  |none=>none)
 | .buildSlice t len parts=>vV I tab boxed vars env mem rs t len parts k
 | .load t a=>eZ env a λa=>OT I tab t mem a k
 | .store t a x=>eZ env a λa=>eZ env x λx=>NH I tab t mem a x k
 | .nilCheck x=>eZ env x λv=>(match v with| .ptr _ _ _ _=>k (gV v)| .el _ _ _ _ _=>k (gV v)| .fn (.func _) _ _=>k (gV v)|_=>none)
 | .binOp op t x y _=>eZ env x λx=>eZ env y λy=>Uw I tab op t x y λv=>k (gV v)
 | .unOp op _ x=>eZ env x λx=>Vh op x λv=>k (gV v)
 | .convert src dst x=>eZ env x λx=>Gz I tab boxed src dst mem rs x k
 | .makeFunc fn first cap=>vC env first.toList λfi=>vC env cap.toList λca=>k (gV (.fn fn fi ca))
 | .makeSlice t l c=>eZ env l λl=>eZ env c λc=>A3 I tab boxed mem t rs l c k
 | .slice t x lo hi mx=>eZ env x λx=>LC env lo λlo=>LC env hi λhi=>LC env mx λmx=>Nd I tab t mem x lo hi mx k
 | .fieldAddr s x f=>eZ env x λx=>JM tab s f λoff _ _=>
  (match x with
  | .ptr b g i c=>k (gV (.ptr b g i (c+off)))
  | .el β ag T x c=>k (gV (.el β ag T x (c+off)))
  |_=>none)
 | .field s x f=>eZ env x λx=>JM tab s f λoff n ft=>
  (match x with
  | .agg cs=>(match tab ft with
   |some tf=>bif tf.ag then bif Nat.ble (off+n) cs.length then k (gV (.agg ((cs.drop off).take n)))else none
     else(match eO cs off with|some v=>k (gV v)|none=>none)
   |none=>none)
  |_=>none)
 | .indexAddr t x ix=>eZ env x λx=>eZ env ix λix=>(match ix with| .lit (.int _ i)=>M9 I tab t mem x i k|_=>none)
 | .index t x ix=>eZ env x λx=>eZ env ix λix=>J8 I tab t x ix k
 | .extract t ix=>eZ env t λt=>(match t with| .tup vs=>(match eO vs ix with|some v=>k (gV v)|none=>none)|_=>none)
 | .call c=>vC env c.args.toList λargs=>
  (match c.callee with
  | .builtin b=>Br I tab boxed vars b c.argTypes.toList mem rs args k
  | .value f=>eZ env f λf=>(match f with| .fn (.func g) fi ca=>RC I tab tbl raw vars g c.argTypes.toList fi args ca mem k|_=>none)
  | .invoke _ _=>none)
 |_=>none
def OB(rs:Nat)(t:TypeId)(l c:KV)(k:bC->Option R):Option R:=
 vG tab t λet te=>
 match l,c with
 | .lit (.int _ n),.lit (.int _ n')=>
  (match te.ty with
  |some T=>bif Nat.ble 1 te.n&&Nat.ble te.bytes 4096&&Nat.beq te.zero.length te.n&&vE (te.zero.map .lit)&&eP te.ag (fB T)then
    (match R5 (c8 T) (te.zero.map .lit) 0 0 with
    |some a=>(match a.2 with
     | []=>fE I [] T a.1 λz _ _=>I.guard ((n==n')&&decide (0≤n)&&Nat.ble n.toNat bJ) (k ⟨.msw rs 0,[],[(rs,⟨0,false,.os T (List.replicate n.toNat z) []⟩)],[]⟩)
     |_=>none)
    |none=>none)
   else none
  |none=>none)
 |_,_=>none
def sM:List KV->List (List KV)
 | []=> []
 |v::r=>v.cells::sM r
def Ko(env:Nat->KV)(rs:Nat)(t:TypeId)(len:Nat)(parts:Array (Nat×Operand))(k:bC->Option R):Option R:=
 vG tab t λet te=>CK env parts.toList λps=>
 let z:=e8 te
 let vs:=s7 (List.replicate len z) ps
 match te.ty with
 |some T=>bif vU len ps&&Nat.ble len 4096&&Nat.ble 1 te.n&&Nat.ble te.n 4096&&qR te.n (z::ps.map (·.2))&&Nat.ble 1 len&&vE (lV vs)&&eP te.ag (fB T)then
   Gd I T (sM vs) 0 λxs hs=>k ⟨.msw rs 0,[],[(rs,⟨0,false,.os T xs hs⟩)],[]⟩
  else none
 |none=>none
def Kc(t:TypeId)(rs:Nat)(k:bC->Option R):Option R:=
 vG tab t λet te=>match te.ty with
 |some T=>bif eP te.ag (fB T)then k ⟨.msw rs 0,[],[(rs,⟨0,false,.os T [] []⟩)],[]⟩else none
 |none=>none
def Tl(own tk boxed raw vars:Bool)(o:Oper)(env:Nat->KV)(mem:aF)(rs:Nat)(k:bC->Option R):Option R:=
 match o.op with
 | .move x=>bif own&&kI x then Kc tab o.type rs k else Lc I tab tbl boxed raw vars o env mem rs k
 | .assign x=>bif own&&kI x then Kc tab o.type rs k else Lc I tab tbl boxed raw vars o env mem rs k
 | .buildSlice t len parts=>bif own then Ko I tab env rs t len parts k else Lc I tab tbl boxed raw vars o env mem rs k
 | .makeSlice t l c=>bif own then eZ env l λl=>eZ env c λc=>OB I tab rs t l c k else Lc I tab tbl boxed raw vars o env mem rs k
 | .load t a=>eZ env a λv=>bif Hw mem v then NT I tab tk t mem v k else Lc I tab tbl boxed raw vars o env mem rs k
 | .store t a x=>eZ env a λv=>bif Hw mem v then eZ env x λx=>J9 I tab t mem v x k else Lc I tab tbl boxed raw vars o env mem rs k
 | .slice t x lo hi mx=>eZ env x λv=>bif Aw mem v then LC env lo λlo=>LC env hi λhi=>LC env mx λmx=>Kz I tab t mem v lo hi mx k else Lc I tab tbl boxed raw vars o env mem rs k
 | .indexAddr t x ix=>eZ env x λv=>bif Aw mem v then eZ env ix λix=>(match ix with| .lit (.int _ i)=>Kg I tab t mem v i k|_=>none)else Lc I tab tbl boxed raw vars o env mem rs k
 | .call c=>
  (match c.callee with
  | .builtin .len=>vC env c.args.toList λargs=>(match c.argTypes.toList,args with
   | [t],[x]=>bif O4 mem x then Ru tab t mem x k else Lc I tab tbl boxed raw vars o env mem rs k
   |_,_=>Lc I tab tbl boxed raw vars o env mem rs k)
  | .builtin .append=>vC env c.args.toList λargs=>(match c.argTypes.toList,args with
   | [t,tx],[x,y]=>bif own||Aw mem x then GT I tab own t tx mem rs x y k else Lc I tab tbl boxed raw vars o env mem rs k
   |_,_=>none)
  |_=>Lc I tab tbl boxed raw vars o env mem rs k)
 |_=>Lc I tab tbl boxed raw vars o env mem rs k
def y9(mem:aF):List (Nat×dE)->aF
 | []=>mem
 |(b,x)::r=>y9 (s6 (some x) mem b) r
def bC.apply(o:bC)(mem:aF):aF:=y9 mem o.wr++o.push
def Ki(mem:aF)(rs:Nat):Bool:=
 match eO mem rs with
 |some none=>true
 |_=>false
def I8:aF->aF
 | []=> []
 |x::r=>match I8 r with
  | []=>(match x with|none=> []|some b=> [some b])
  |y=>x::y
def JF:KV->Option (Nat×Nat×Nat×Nat)
 | .ptr b g i c=>some (b,g,i,c)
 |_=>none
def BR(x:dE):Option (Nat×Nat×List (Option (Nat×Nat×Nat×Nat))):=
 match x.row with
 | .cells e cs=>some (x.gen,e,cs.map JF)
 |_=>none
def oU(mem:aF)(b:Nat):Option (Nat×Nat×List (Option (Nat×Nat×Nat×Nat))):=
 match eO mem b with
 |some (some x)=>BR x
 |_=>none
def Ay(mem:aF)(wr:List (Nat×dE))(b:Nat):Bool:=wr.all λq=>!(Nat.beq q.1 b)||Jp (BR q.2) (oU mem b)
def SD(op:Op)(mem:aF)(v:KV)(rd:List Nat):Bool:=
 NI op&&(match JF v with|some _=>true|none=>false)&&(match rd with| [b]=>(match oU mem b with|some _=>true|none=>false)|_=>false)
def bC.tr(mk:Bool)(rs:Nat)(o:bC)(i:Nat)(op:Op)(mem:aF):Tr:={i,rc:=SD op mem o.v o.rd,wk:=Ay mem o.wr,rd:=o.rd,wr:=bif mk then rs::o.wr.map (·.1)else o.wr.map (·.1),push:=match o.push with| []=>false|_=>true}
def OQ(h:Option Int)(v:KV)(k:KV->Option R):Option R:=
 match h with
 |none=>k v
 |some x=>match v with
  | .lit (.int kd y)=>I.guard (decide (y=x)) (k (.lit (.int kd x)))
  |_=>none
def NG(an:nB)(tk:Bool)(rid:Nat)(ds:List (Option Tmp)):List Oper->Nat->Nat->zX->List Tr->(zX->List Tr->Option R)->Option R
 | [],_,_,st,tr,k=>k st tr
 |o::rest,i,rs,st,tr,k=>
  let mk:=eE o.op
  let rs':=bif mk then rs+1 else rs
  let run (env:Nat->KV):Option R:=bif(bif mk then Ki st.mem rs else true)then Tl I tab tbl (bG rid i an.own) tk (bG rid i an.boxed) (bG rid i an.raw) (bG rid i an.vars) o env st.mem rs λout=>
   OQ I (CZ rid i an.hint) out.v λv=>NG an tk rid ds rest (i+1) rs' ⟨AI env o.dst v,out.apply st.mem⟩ (out.tr mk rs i o.op st.mem::tr) k else none
  let skip (env:Nat->KV):Option R:=NG an tk rid ds rest (i+1) rs' ⟨AI env o.dst (.lit undef),st.mem⟩ tr k
  match o.guard with
  |none=>run st.env
  |some (j,want)=>
   match eO ds j with
   |some (some d)=>
    (match st.env d with
    | .lit (.bool b)=>
     I.ite b ((λenv=>bif want then run env else skip env) (n8 st.env d (.lit (.bool true)))) ((λenv=>bif want then skip env else run env) (n8 st.env d (.lit (.bool false))))
    | .lit (.tuple _)=>skip st.env
    |_=>none)
   |_=>none
def pS(an:nB)(rid:Nat)(ops:Array Oper)(draw:Bool)(st:zX)(k:zX->Option R):Option R:=
 let n:=pX ops.toList
 NG I tab tbl an (!draw) rid (ops.toList.map (·.dst)) ops.toList 0 st.mem.length ⟨st.env,st.mem++List.replicate n none⟩ [] λst' tr=>
  bif !draw||JI ops (st.mem.length+n) tr then k ⟨st'.env,I8 st'.mem⟩else none
def pG(env:Nat->KV)(c:Operand)(b:Bool):Nat->KV:=
 match c with
 | .tmp d=>n8 env d (.lit (.bool b))
 |_=>env
def z9(keep:Bool)(old:List (Option Bool))(live:List Nat)(st:zX)(k:zX->Option R):Option R:=
 vC st.env (live.map .tmp) λvs=>Cp I keep old vs st.mem λvs' mem'=>k ⟨dW live vs',mem'⟩
def RS(mem:aF)(off:Nat)(v:KV)(k:KV->Option R):Option R:=
 match v with
 | .ptr b g i c=>oX mem b g λx=>(match x.row with
  | .cells e cs=>(match eO cs (i*e+c+off)with|some v=>k v|none=>none)
  |_=>none)
 |v=>k v
def Kv(mem:aF)(s:KV)(n c:Nat)(k:aF->Option R):Option R:=
 match s with
 | .msw b g=>vB mem b g λbx=>(match bx.row with
  | .os T xs hs=>I.getN xs n λx=>(match eO (cellsOf true T x) c with
   |some (.tsl β ag T' ys)=>Dm I true n c (.tsl β ag T' ys) hs mem.length λ_ hs' rows=>k (s6 (some ⟨bx.gen,bx.frz,.os T xs hs'⟩) mem b++qQ rows)
   |_=>none)
  |_=>none)
 |_=>none
def Kn(mem:aF)(off:Nat)(v:KV)(k:aF->Option R):Option R:=
 match v with
 | .ptr b g i c=>oX mem b g λx=>(match x.row with
  | .cells e cs=>(match eO cs (i*e+c+off)with
   |some (.msw b1 g1)=>oX mem b1 g1 λy=>k (s6 (some ⟨x.gen,x.frz,.cells e (s6 (.ms b1 g1 0 (fD y.row)) cs (i*e+c+off))⟩) mem b)
   |_=>k mem)
  |_=>none)
 |_=>none
def Q6(env:Nat->KV)(mem:aF)(q:Operand×Nat×Operand×Nat)(k:aF->Option R):Option R:=
 eZ env q.1 λp=>bif Nat.beq q.2.2.2 999 then Kn mem q.2.1 p k else RS mem q.2.1 p λs=>eZ env q.2.2.1 λv=>
  match v with
  | .lit (.int _ n)=>I.guard (decide (0≤n)) (Kv I mem s n.toNat q.2.2.2 k)
  |_=>none
def Ju(env:Nat->KV):List (Operand×Nat×Operand×Nat)->aF->(aF->Option R)->Option R
 | [],mem,k=>k mem
 |q::r,mem,k=>Q6 I env mem q λmem'=>Ju env r mem' k
def E5(an:nB)(rid:Nat)(old:List (Option Bool))(st:zX)(k:zX->Option R):Option R:=
 match dB rid an.tidy with
 |none=>k st
 |some q=>bif dR 0 q.1 then vC st.env (q.1.map .tmp) λvs=>Ok I old.length vs st.mem λmem=>Ju I (dW q.1 vs) q.2 mem λmem'=>k ⟨dW q.1 vs,mem'⟩else none
variable (loops:Nat->Option aT)
def kJ(an:nB)(old:List (Option Bool)):Code->Nat->zX->(MX->zX->Option R)->Option R
 | .skip,_,st,k=>k .normal st
 | .ret,_,st,k=>k .ret st
 | .exit id,_,st,k=>k (.exit id) st
 | .seq a b,bid,st,k=>kJ an old a bid st λe st'=>
  match e with
  | .normal=>kJ an old b bid st' k
  | .exit id=>k (.exit id) st'
  | .ret=>k .ret st'
  | .goto l=>k (.goto l) st'
 | .cond c x y,bid,st,k=>eZ st.env c λv=>
  match v with
  | .lit (.bool t)=>I.ite t (kJ an old x bid ⟨pG st.env c true,st.mem⟩ k) (kJ an old y bid ⟨pG st.env c false,st.mem⟩ k)
  | .unkB=>I.amb (kJ an old x bid st k) (kJ an old y bid st k)
  |_=>none
 | .block id c,_,st,k=>kJ an old c id st λe st'=>
  match e with
  | .normal=>k .normal st'
  | .exit j=>bif Nat.beq j id then k .normal st' else k (.exit j) st'
  | .ret=>k .ret st'
  | .goto l=>k (.goto l) st'
 | .loop c,bid,st,k=>bif Nat.ble 500 bid then none else
  match dB bid an.live with
  |some live=>z9 I (eC bid an.keep) old live st λst1=>
   (match loops bid with
   |some L=>(match wT false L.heads .normal st1 with
    |some s=>I.bind (L.run s) λx=>Dp I L.outs x k
    |none=>I.loop bid st1 k)
   |none=>I.loop bid st1 k)
  |none=>none
 | .region rid ops draw,_,st,k=>E5 I an rid old st λst=>pS I tab tbl an rid ops draw st (λst'=>k .normal st')
 | .goto l,_,st,k=>k (.goto l) st
 | .scope (.seq (.region r1 o1 d1) (.seq (.region r2 o2 d2) (.seq (.label l) b))),_,st,k=>
  E5 I an r1 old st λst=>pS I tab tbl an r1 o1 d1 st λst=>
  E5 I an r2 old st λst=>pS I tab tbl an r2 o2 d2 st λst=>
  match dB (bW l) an.live with
  |some live=>z9 I (eC (bW l) an.keep) old live st λst1=>
   (match loops (bW l) with
   |some L=>(match wT false L.heads .normal st1 with
    |some s=>I.bind (L.run s) λx=>Dp I L.outs x k
    |none=>I.loop (bW l) st1 k)
   |none=>I.loop (bW l) st1 k)
  |none=>none
 |_,_,_,_=>none
def Oo(env:Nat->KV)(mem:aF):List ResultVar->(List KV->Option R)->Option R
 | [],k=>k []
 | .tmp t::r,k=>eZ env (.tmp t) λv=>Oo env mem r λvs=>k (v::vs)
 | .cell a t::r,k=>eZ env (.tmp a) λa=>OT I tab t mem a λo=>Oo env mem r λvs=>k (o.v::vs)
def zO:List KV->KV
 | [v]=>v
 |vs=> .tup vs
def UZ(fn:Func)(old:List (Option Bool))(e:MX)(st:zX)(k:KV->aF->Option R):Option R:=
 match e with
 | .exit _=>none
 | .goto _=>none
 |_=>Oo I tab st.env st.mem fn.results.toList λvs=>Cp I true old [zO vs] st.mem λws mem'=>(match ws with| [v]=>k v mem'|_=>none)
def J7(args:List KV)(n:Nat):Nat->KV:=λt=>
 match eO args t with
 |some v=>v
 |none=>bif Nat.blt t n then .lit undef else .gone
def TN(an:nB)(fn:Func)(args:List KV)(mem:aF)(k:KV->aF->Option R):Option R:=
 match fn.body with
 |some c=>kJ I tab tbl loops an (f8 mem) c 0 ⟨J7 args fn.ntmps,mem⟩ λe st=>UZ I tab fn (f8 mem) e st k
 |none=>none
def To(an:nB)(fn:Func)(a:mT)(r:List mT)(d:a.den)(k:eN r->Option R):Option R:=
 TN I tab tbl loops an fn (dN a.sh (P2.fst a.sh.dflt _ _ d)) (gX a.msh (P2.snd a.msh.dflt _ _ d)) λv mem=>
  match wT true r .ret ⟨dW [0] [v],mem⟩with
  |some b=>k b
  |none=>none
def fK:Code->Nat->List (Nat×Code)
 | .seq a b,bid=>fK a bid++fK b bid
 | .cond _ x y,bid=>fK x bid++fK y bid
 | .block id c,_=>fK c id
 | .loop c,bid=>(bid,c)::fK c bid
 | .scope (.seq (.region _ _ _) (.seq (.region _ _ _) (.seq (.label l) b))),_=>(bW l,b)::fK b (bW l)
 |_,_=> []
def Cr(an:nB)(old:List (Option Bool))(c:Code)(bid:Nat)(live:List Nat)(heads outs:List mT)(s:eN heads)(k:eN heads⊕eN outs->Option R):Option R:=
 Dp I heads s λ_ st0=>kJ I tab tbl loops an old c bid st0 λe st=>
  match e with
  | .normal=>bif Nat.ble 500 bid then none else z9 I (eC bid an.keep) old live st λst1=>(match wT false heads .normal st1 with|some s'=>k (.inl s')|none=>none)
  | .goto l=>bif Nat.beq (bW l) bid then z9 I (eC bid an.keep) old live st λst1=>(match wT false heads .normal st1 with|some s'=>k (.inl s')|none=>none)else none
  | .exit id=>(match wT false outs (.exit id) st with|some x=>k (.inr x)|none=>none)
  | .ret=>(match wT false outs .ret st with|some x=>k (.inr x)|none=>none)
end
end
end Go.Ab
