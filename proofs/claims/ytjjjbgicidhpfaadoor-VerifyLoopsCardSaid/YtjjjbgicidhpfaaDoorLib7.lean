import Derived.Test.YtjjjbgicidhpfaaDoorLib6
set_option linter.unusedVariables false
set_option linter.unusedSectionVars false
namespace Go.Ab
noncomputable section
inductive Sh where
 |int (k:IntKind)|bool|str
 |nilS|nilP|undef
 |sl (β ag:Bool) (T:Ty)
 |el (β ag:Bool) (T:Ty) (c:Nat)
 |ptr (b g i c:Nat)
 |ptrI (b g c:Nat)
 |ms (b g:Nat)
 |msw (b g:Nat)
 |fn (f:FuncId) (fi ca:Sh)
 |agg (l:Sh)
 |tup (l:Sh)
 |nil
 |cons (a b:Sh)
 |bnone
 |bts (gen:Nat) (frz β ag:Bool) (T:Ty)
 |bcells (gen:Nat) (frz:Bool) (e:Nat) (l:Sh)
 |bos (gen:Nat) (frz:Bool) (T:Ty) (l:Sh)
def P2(ua ub:Bool)(A B:Type):Type:=Bool.rec (Bool.rec (A×B) A ub) B ua
def P2.mk{A B:Type}:(ua ub:Bool)->A->B->P2 ua ub A B
 |true,_,_,b=>b
 |false,true,a,_=>a
 |false,false,a,b=>(a,b)
def P2.fst{A B:Type}(da:A):(ua ub:Bool)->P2 ua ub A B->A
 |true,_,_=>da
 |false,true,p=>p
 |false,false,p=>p.1
def P2.snd{A B:Type}(db:B):(ua ub:Bool)->P2 ua ub A B->B
 |true,_,p=>p
 |false,true,_=>db
 |false,false,p=>p.2
def Sh.un(s:Sh):Bool:=
 Sh.rec (λ_=>false) false false true true true (λ_ _ _=>false) (λ_ _ _ _=>false) (λ_ _ _ _=>true) (λ_ _ _=>false) (λ_ _=>false) (λ_ _=>true)
  (λ_ _ _ a b=>FE a b) (λ_ a=>a) (λ_ a=>a) true (λ_ _ a b=>FE a b) true (λ_ _ _ _ _=>false) (λ_ _ _ _ a=>a) (λ_ _ _ _ _=>false) s
def Sh.den(s:Sh):Type:=
 Sh.rec (λ_=>Int) Bool ByteArray Unit Unit Unit (λ_ _ T=>List (Go.Ab.den T)) (λ_ _ T _=>Go.Ab.den T) (λ_ _ _ _=>Unit) (λ_ _ _=>Nat) (λ_ _=>Nat×Nat) (λ_ _=>Unit)
  (λ_ fi ca a b=>P2 fi.un ca.un a b) (λ_ a=>a) (λ_ a=>a) Unit (λa b x y=>P2 a.un b.un x y) Unit (λ_ _ _ _ T=>List (Go.Ab.den T)) (λ_ _ _ _ a=>a) (λ_ _ T l a=>P2 false l.un (List (Go.Ab.den T)) a) s
def Sh.dflt:(s:Sh)->s.den
 | .int _=>(0:Int)
 | .bool=>false
 | .str=>ByteArray.empty
 | .nilS| .nilP| .undef| .ptr _ _ _ _| .msw _ _| .nil| .bnone=>()
 | .sl _ _ _=>([]:List _)
 | .el _ _ T _=>dT T
 | .ptrI _ _ _=>(0:Nat)
 | .ms _ _=>((0,0):Nat×Nat)
 | .fn _ fi ca=>P2.mk _ _ fi.dflt ca.dflt
 | .agg l=>l.dflt
 | .tup l=>l.dflt
 | .cons a b=>P2.mk _ _ a.dflt b.dflt
 | .bts _ _ _ _ _=>([]:List _)
 | .bcells _ _ _ l=>l.dflt
 | .bos _ _ _ l=>P2.mk false l.un [] l.dflt
 where
 dT:(T:Ty)->Go.Ab.den T
 | .int _=>(0:Int)
 | .bool=>false
 | .str=>ByteArray.empty
 | .sl _ _=>([]:List _)
 | .cons a b=>(dT a,dT b)
def fD(a b:Nat):Bool:=Nat.beq a b
def d4(nz:Bool):(s:Sh)->List KV->Option s.den
 | .int k,vs=>(match vs with| [.lit (.int k' x)]=>bif fY k k' then some x else none|_=>none)
 | .bool,vs=>(match vs with| [.lit (.bool x)]=>some x|_=>none)
 | .str,vs=>(match vs with| [.lit (.string x)]=>some x|_=>none)
 | .nilS,vs=>(match vs with| [.lit (.slice none 0 0)]=>some ()|_=>none)
 | .nilP,vs=>(match vs with| [.lit (.pointer none)]=>some ()|_=>none)
 | .undef,vs=>(match vs with| [.lit (.tuple a)]=>(match a.toList with| []=>some ()|_=>none)|_=>none)
 | .sl β ag T,vs=>(match vs with
  | [.tsl β' ag' T' xs]=>bif(dY β β'||(nz&&β))&&dY ag ag' then oN T' T xs else none
  | [.lit (.slice none 0 0)]=>bif nz then some []else none
  |_=>none)
 | .el β ag T c,vs=>(match vs with
  | [.el β' ag' T' x c']=>bif(dY β β'||(nz&&β))&&dY ag ag'&&fD c c' then Ga (F:=Go.Ab.den) (Ty.beq T' T) rfl x else none
  |_=>none)
 | .ptr b g i c,vs=>(match vs with| [.ptr b' g' i' c']=>bif fD b b'&&fD g g'&&fD i i'&&fD c c' then some ()else none|_=>none)
 | .ptrI b g c,vs=>(match vs with| [.ptr b' g' i c']=>bif fD b b'&&fD g g'&&fD c c' then some i else none|_=>none)
 | .ms b g,vs=>(match vs with| [.ms b' g' o n]=>bif fD b b'&&fD g g' then some (o,n)else none|_=>none)
 | .msw b g,vs=>(match vs with| [.msw b' g']=>bif fD b b'&&fD g g' then some ()else none|_=>none)
 | .fn f fi ca,vs=>(match vs with
  | [.fn (.func f') fi' ca']=>bif fD f f' then
    (match d4 nz fi fi' with
    |some x=>(match d4 nz ca ca' with|some y=>some (P2.mk _ _ x y)|none=>none)
    |none=>none)else none
  |_=>none)
 | .agg l,vs=>(match vs with| [.agg cs]=>d4 nz l cs|_=>none)
 | .tup l,vs=>(match vs with| [.tup cs]=>d4 nz l cs|_=>none)
 | .nil,vs=>(match vs with| []=>some ()|_=>none)
 | .cons a b,vs=>(match vs with
  |v::r=>
   (match d4 nz a [v] with
   |some x=>(match d4 nz b r with|some y=>some (P2.mk _ _ x y)|none=>none)
   |none=>none)
  | []=>none)
 | .bnone,_=>none
 | .bts _ _ _ _ _,_=>none
 | .bcells _ _ _ _,_=>none
 | .bos _ _ _ _,_=>none
def c6:(s:Sh)->s.den->List KV
 | .int k,x=> [.lit (.int k x)]
 | .bool,x=> [.lit (.bool x)]
 | .str,x=> [.lit (.string x)]
 | .nilS,_=> [.lit (.slice none 0 0)]
 | .nilP,_=> [.lit (.pointer none)]
 | .undef,_=> [.lit (.tuple #[])]
 | .sl β ag T,xs=> [.tsl β ag T xs]
 | .el β ag T c,x=> [.el β ag T x c]
 | .ptr b g i c,_=> [.ptr b g i c]
 | .ptrI b g c,i=> [.ptr b g i c]
 | .ms b g,p=> [.ms b g (Prod.fst p) (Prod.snd p)]
 | .msw b g,_=> [.msw b g]
 | .fn f fi ca,p=> [.fn (.func f) (c6 fi (P2.fst fi.dflt _ _ p)) (c6 ca (P2.snd ca.dflt _ _ p))]
 | .agg l,p=> [.agg (c6 l p)]
 | .tup l,p=> [.tup (c6 l p)]
 | .nil,_=> []
 | .cons a b,p=>c6 a (P2.fst a.dflt _ _ p)++c6 b (P2.snd b.dflt _ _ p)
 | .bnone,_=> []
 | .bts _ _ _ _ _,_=> []
 | .bcells _ _ _ _,_=> []
 | .bos _ _ _ _,_=> []
def jR:cK->List KV
 | []=> []
 |h::r=> .agg [.ptr 0 0 h.1 h.2.1,h.2.2]::jR r
def OP:KV->Option (Nat×Nat×KV)
 | .agg cs=>(match cs with
  | [a,v]=>(match a with| .ptr _ _ i c=>some (i,c,v)|_=>none)
  |_=>none)
 |_=>none
def gP:List KV->cK
 | []=> []
 |v::r=>(match OP v with|some h=>h::gP r|none=>gP r)
def yT(nz:Bool):(s:Sh)->aE->Option s.den
 | .nil,m=>(match m with| []=>some ()|_=>none)
 | .cons a b,m=>(match m with
  |x::r=>
   (match yT nz a [x] with
   |some x=>(match yT nz b r with|some y=>some (P2.mk _ _ x y)|none=>none)
   |none=>none)
  | []=>none)
 | .bnone,m=>(match m with| [none]=>some ()|_=>none)
 | .bts gen frz β ag T,m=>(match m with
  | [some ⟨gen',frz',.ts β' ag' T' xs⟩]=>bif fD gen gen'&&dY frz frz'&&dY β β'&&dY ag ag' then oN T' T xs else none
  |_=>none)
 | .bcells gen frz e l,m=>(match m with
  | [some ⟨gen',frz',.cells e' cs⟩]=>bif fD gen gen'&&dY frz frz'&&fD e e' then d4 false l cs else none
  |_=>none)
 | .bos gen frz T l,m=>(match m with
  | [some ⟨gen',frz',.os T' xs hs⟩]=>bif fD gen gen'&&dY frz frz' then
    (match oN T' T xs with
    |some ys=>(match d4 false l (jR hs)with|some p=>some (P2.mk false l.un ys p)|none=>none)
    |none=>none)else none
  |_=>none)
 |_,_=>none
def fM:(s:Sh)->s.den->aE
 | .nil,_=> []
 | .cons a b,p=>fM a (P2.fst a.dflt _ _ p)++fM b (P2.snd b.dflt _ _ p)
 | .bnone,_=> [none]
 | .bts gen frz β ag T,xs=> [some ⟨gen,frz,.ts β ag T xs⟩]
 | .bcells gen frz e l,p=> [some ⟨gen,frz,.cells e (c6 l p)⟩]
 | .bos gen frz T l,p=> [some ⟨gen,frz,.os T (P2.fst (A:=List (Go.Ab.den T)) [] false l.un p) (gP (c6 l (P2.snd l.dflt false l.un p)))⟩]
 |_,_=> []
structure kN where
 ex:JC
 slots:List Nat
 sh:Sh
 msh:Sh
def kN.den(s:kN):Type:=P2 s.sh.un s.msh.un s.sh.den s.msh.den
def dD:List Nat->List KV->Nat->KV
 |s::ss,v::vs=>λt=>bif Nat.beq t s then v else dD ss vs t
 |_,_=>λ_=> .gone
def iR(env:Nat->KV):List Nat->List KV
 | []=> []
 |s::r=>env s::iR env r
def Dh:JC->JC->Bool
 | .normal,.normal=>true
 | .exit a,.exit b=>Nat.beq a b
 | .goto a,.goto b=>Nat.beq a b
 | .ret,.ret=>true
 |_,_=>false
def mT(nz:Bool)(s:kN)(st:wH):Option s.den:=
 match d4 nz s.sh (iR st.env s.slots)with
 |some x=>(match yT nz s.msh st.mem with|some y=>some (P2.mk _ _ x y)|none=>none)
 |none=>none
def qM(s:kN)(d:s.den):wH:=⟨dD s.slots (c6 s.sh (P2.fst s.sh.dflt _ _ d)),fM s.msh (P2.snd s.msh.dflt _ _ d)⟩
def dV:List kN->Type
 | []=>Empty
 | [a]=>a.den
 |a::b::r=>a.den⊕dV (b::r)
def sB(nz:Bool):(l:List kN)->JC->wH->Option (dV l)
 | [],_,_=>none
 | [a],e,st=>bif Dh a.ex e then mT nz a st else none
 |a::b::r,e,st=>match(bif Dh a.ex e then mT nz a st else none)with
  |some x=>some (Sum.inl x)
  |none=>(match sB nz (b::r) e st with|some y=>some (Sum.inr y)|none=>none)
def D3{R:Type}(I:Pm R):(l:List kN)->dV l->(JC->wH->Option R)->Option R
 | [],_,_=>none
 | [a],d,k=>k a.ex (qM a d)
 |a::b::r,d,k=>I.sum d (λx=>k a.ex (qM a x)) (λy=>D3 I (b::r) y k)
structure aD where
 a:kN
 r:List kN
 sh:a.den->Option (dV r)
structure aT where
 heads:List kN
 outs:List kN
 run:dV heads->Option (dV outs)
def b8{S X:Type}(B:S->Option (S⊕X))(n:Nat):S->Option X:=
 Nat.rec (λ_=>none) (λ_ ih s=>(B s).bind λq=>Sum.rec (λs'=>ih s') (λx=>some x) q) n
section
variable {R:Type} (I:Pm R) (tab:TypeId->Option TI)
def c9:Nat->List Nat->Bool
 |_,[]=>true
 |n,a::r=>Nat.ble n a&&c9 (a+1) r
variable [b3]
def K8(boxed vars:Bool)(t:TypeId)(rs:Nat)(env:Nat->KV)(x:Operand)(k:a9->Option R):Option R:=
 bif iS x&&boxed&&!vars then
  (match tab t with
  |some ti=>(match ti.tk with| .sl et=>rR tab et λrow=>k ⟨.msw rs 0,[],[(rs,⟨0,false,row⟩)],[]⟩|_=>none)
  |none=>none)
 else eB env x λv=>
  match v with
  | .lit (.slice none 0 0)=>
   bif boxed then k (fK v)else
   (match tab t with
   |some ti=>(match ti.tk with| .sl et=>rR tab et λrow=>(match row with| .ts β ag T xs=>k (fK (.tsl β ag T xs))|_=>none)|_=>none)
   |none=>none)
  |v=>k (fK v)
def M5(c a b:KV)(k:KV->Option R):Option R:=
 match c with
 | .lit (.bool t)=>
  match a,b with
  | .lit (.bool x),.lit (.bool y)=>k (.lit (.bool (bif t then x else y)))
  |_,_=>I.ite t (k a) (k b)
 |_=>none
def CO(boxed:Bool)(src dst:TypeId)(mem:aE)(rs:Nat)(x:KV)(k:a9->Option R):Option R:=
 match tab src,tab dst with
 |some s,some d=>
  match s.tk,d.tk with
  | .int _,.int kd=>(match x with| .lit (.int _ n)=>k (fK (.lit (.int kd (gF kd n))))|_=>none)
  | .str,.str=>(match x with| .lit (.string b)=>k (fK (.lit (.string b)))|_=>none)
  | .sl e,.str=>
   (match tab e with
   |some te=>
    (match te.tk with
    | .int ke=>bif fY ke .u8&&Nat.beq te.n 1&&D0 tab src x then Ix I tab e mem x λrow rd=>
      (match row with
      | .ts _ ag (.int ke') xs=>bif fY ke' .u8&&!ag then k ⟨.lit (.string (oJ xs)),rd,[],[]⟩else none
      |_=>none)else none
    |_=>none)
   |none=>none)
  | .sl _,.sl e=>
   (match tab e, x with
   |some te,.msw b g=>
    (match te.tk with
    | .int ke=>bif fY ke .u8&&Nat.beq src dst then mH mem b g λx=>I.guard (Nat.ble 1 (eD x.row)) (k ⟨.msw b g,[b],[],[]⟩)else none
    |_=>none)
   |_,_=>none)
  |_,_=>none
 |_,_=>none
def oG(mem:aE)(t:TypeId)(v:KV)(k:KV->List Nat->Option R):Option R:=
 match v with
 | .msw _ _| .ms _ _ _ _=>
  (match tab t with
  |some ti=>bif ti.ag then none else(match ti.ty with
   |some (.sl ag T)=>vJ I mem (.sl ag T) [v] λxs _ l=>k (.tsl true ag T xs) l
   |_=>none)
  |none=>none)
 | .agg cs=>bif hasMsK cs then
   (match tab t with
   |some ti=>(match ti.ty with|some T=>lendCellsK mem (cM T) cs λvs l=>k (.agg vs) l|none=>none)
   |none=>none)
  else k (.agg cs) []
 |v=>k v []
 where
 hasMsK:List KV->Bool
  | []=>false
  | .msw _ _::_=>true
  | .ms _ _ _ _::_=>true
  |_::r=>hasMsK r
 lendCellsK (mem:aE):List Ty->List KV->(List KV->List Nat->Option R)->Option R
  | [],[],k=>k [] []
  |T::Ts,v::vs,k=>
   (match v with
   | .msw _ _| .ms _ _ _ _=>
    (match T with
    | .sl ag T=>vJ I mem (.sl ag T) [v] λxs _ l=>lendCellsK mem Ts vs λws l'=>k (.tsl true ag T xs::ws) (l++l')
    |_=>none)
   |v=>lendCellsK mem Ts vs λws l'=>k (v::ws) l')
  |_,_,_=>none
def z6(mem:aE):List TypeId->List KV->(List KV->List Nat->Option R)->Option R
 | [],[],k=>k [] []
 |t::ts,v::vs,k=>oG I tab mem t v λw l=>z6 mem ts vs λws l'=>k (w::ws) (l++l')
 |_,_,_=>none
def l6(mem sub:aE)(ids:List Nat):i7:=λb g=>
  (match dW ids b with
  |some a=>(match dW sub b,r7 mem a with
   |some (some x),some h=>bif Nat.beq x.gen g then some (a,h+x.gen)else none
   |_,_=>none)
  |none=>bif Nat.beq g 0&&Nat.blt b sub.length then some (mem.length+(b-ids.length),0)else none)
def gU(f:i7)(mem:aE):List Nat->aE->List (Nat×cS)
 |a::ids,some x::r=>(a,⟨(match r7 mem a with|some h=>h+x.gen|none=>0),x.frz,x.row.ren f⟩)::gU f mem ids r
 |_::ids,none::r=>gU f mem ids r
 |_,_=> []
def vH(f:i7):aE->aE
 | []=> []
 |some x::r=>some ⟨0,x.frz,x.row.ren f⟩::vH f r
 |none::r=>none::vH f r
variable (tbl:FuncId->List aD)
def i5:Sh->List KV->Bool
 | .int _,vs=>(match vs with| [.lit (.int _ _)]=>true|_=>false)
 | .bool,vs=>(match vs with| [.lit (.bool _)]=>true|_=>false)
 | .str,vs=>(match vs with| [.lit (.string _)]=>true|_=>false)
 | .nilS,vs=>(match vs with| [.lit (.slice none 0 0)]=>true|_=>false)
 | .nilP,vs=>(match vs with| [.lit (.pointer none)]=>true|_=>false)
 | .undef,vs=>(match vs with| [.lit (.tuple _)]=>true|_=>false)
 | .sl _ _ _,vs=>(match vs with| [.tsl _ _ _ _]=>true| [.lit (.slice none 0 0)]=>true|_=>false)
 | .el _ _ _ c,vs=>(match vs with| [.el _ _ _ _ c']=>fD c c'|_=>false)
 | .ptr b g i c,vs=>(match vs with| [.ptr b' g' i' c']=>fD b b'&&fD g g'&&fD i i'&&fD c c'|_=>false)
 | .ptrI b g c,vs=>(match vs with| [.ptr b' g' _ c']=>fD b b'&&fD g g'&&fD c c'|_=>false)
 | .ms b g,vs=>(match vs with| [.ms b' g' _ _]=>fD b b'&&fD g g'|_=>false)
 | .msw b g,vs=>(match vs with| [.msw b' g']=>fD b b'&&fD g g'|_=>false)
 | .fn f fi ca,vs=>(match vs with| [.fn (.func f') fi' ca']=>fD f f'&&i5 fi fi'&&i5 ca ca'|_=>false)
 | .agg l,vs=>(match vs with| [.agg cs]=>i5 l cs|_=>false)
 | .tup l,vs=>(match vs with| [.tup cs]=>i5 l cs|_=>false)
 | .nil,vs=>(match vs with| []=>true|_=>false)
 | .cons a b,vs=>(match vs with|v::r=>i5 a [v]&&i5 b r| []=>false)
 | .bnone,_=>false
 | .bts _ _ _ _ _,_=>false
 | .bcells _ _ _ _,_=>false
 | .bos _ _ _ _,_=>false
def Bz:Sh->aE->Bool
 | .nil,m=>(match m with| []=>true|_=>false)
 | .cons a b,m=>(match m with|x::r=>Bz a [x]&&Bz b r| []=>false)
 | .bnone,m=>(match m with| [none]=>true|_=>false)
 | .bts gen frz _ _ _,m=>(match m with| [some ⟨gen',frz',.ts _ _ _ _⟩]=>fD gen gen'&&dY frz frz'|_=>false)
 | .bcells gen frz e l,m=>(match m with| [some ⟨gen',frz',.cells e' cs⟩]=>fD gen gen'&&dY frz frz'&&fD e e'&&i5 l cs|_=>false)
 | .bos gen frz _ l,m=>(match m with| [some ⟨gen',frz',.os _ _ hs⟩]=>fD gen gen'&&dY frz frz'&&i5 l (jR hs)|_=>false)
 |_,_=>false
def OA(g:FuncId)(args:List KV)(mem:aE)(k:KV->aE->Option R):List aD->Option R
 | []=>I.ask g args mem k
 |E::r=>bif i5 E.a.sh args&&Bz E.a.msh mem then
   (match mT true E.a ⟨dD E.a.slots args, mem⟩ with
   |some a=>bif Nat.beq args.length E.a.slots.length then I.bind (E.sh a) λb=>D3 I E.r b λ_ st=>k (st.env 0) st.mem else none
   |none=>none)
  else OA g args mem k r
def Ph(g:FuncId)(args:List KV)(mem:aE)(k:KV->aE->Option R):Option R:=OA I g args mem k (tbl g)
def Ns(keep:Bool)(mem:aE)(ts:List TypeId)(vs:List KV)(k:List KV->List Nat->Option R):Option R:=bif keep then k vs []else z6 I tab mem ts vs k
def NP(raw keep:Bool)(g:FuncId)(ts:List TypeId)(fi args ca:List KV)(mem:aE)(k:a9->Option R):Option R:=
 Ns I tab keep mem ts args λla lb=>
 let all:=fi++la++ca
 let ids:=rF mem (jM mem (KV.refsAll all).length) (KV.refsAll all) []
 bif dB ids&&rI lb ids then
  Ph I tbl g (KV.renAll (lP 0 true mem ids) all) (oM 0 true (lP 0 true mem ids) mem 0 ids) λv sub=>
  let m:=ids.length
  let r:=bif raw then v else t5 m sub v
  bif Nat.ble m sub.length&&(eX lb||!(v.lent||rN sub))then
   bif e6 m r.refs&&e6 m (gL (sub.take m))then
    k ⟨r.ren (l6 mem (sub.take m) ids),lb++ids,gU (l6 mem (sub.take m) ids) mem ids sub,[]⟩
   else
    k ⟨v.ren (l6 mem sub ids),lb++ids,gU (l6 mem sub ids) mem ids sub,vH (l6 mem sub ids) (sub.drop m)⟩
  else none
 else none
def NH(mem:aE)(t tx:TypeId)(rs:Nat)(n:Int)(k:a9->Option R):Option R:=
 match tab tx with
 |some tix=>(match tix.tk with
  | .int _=>p6 tab t λet te=>
   (match te.ty with
   |some T=>bif Nat.ble 1 te.n&&Nat.ble te.bytes 4096&&Nat.beq te.n T.size&&Nat.beq te.zero.length te.n&&!(aY te.ag T)then
     vJ I mem T (te.zero.map .lit) λz β l=>bif !(eX l)then none else I.guard (decide (1≤n)&&Nat.ble n.toNat bF) (k ⟨.msw rs 0,[],[(rs,⟨0,false,.ts β te.ag T (List.replicate n.toNat z)⟩)],[]⟩)
    else none
   |none=>none)
  |_=>none)
 |none=>none
def yW(boxed vars:Bool)(b:Builtin)(ts:List TypeId)(mem:aE)(rs:Nat)(args:List KV)(k:a9->Option R):Option R:=
 match b with
 | .len=>(match ts,args with| [t],[x]=>OL tab t mem x λn rd=>k ⟨.lit (.int .i64 n),rd,[],[]⟩|_,_=>none)
 | .append=>(match ts,args with| [t,tx],[x,y]=>(match x,y with| .lit (.slice none 0 0),.lit (.int _ n)=>NH I tab mem t tx rs n k|_,_=>GM I tab boxed vars t tx mem rs x y k)|_,_=>none)
 | .cap=>(match ts,args with| [t],[.lit (.slice none 0 0)]=>(match tab t with|some ti=>(match ti.tk with| .sl _=>k (fK (.lit (.int .i64 0)))|_=>none)|none=>none)|_,_=>none)
 | .min=>(match args with| .lit (.int kd a)::r=>(match rY OV kd r a with|some v=>k (fK (.lit (.int kd v)))|none=>none)|_=>none)
 | .max=>(match args with| .lit (.int kd a)::r=>(match rY Nv kd r a with|some v=>k (fK (.lit (.int kd v)))|none=>none)|_=>none)
 |_=>none
def y9(k:IntKind):List KV->Option (List Int)
 | []=>some []
 | .lit (.int k' x)::r=>bif fY k k' then(match y9 k r with|some xs=>some (x::xs)|none=>none)else none
 |_::_=>none
def q5(boxed vars:Bool)(env:Nat->KV)(mem:aE)(rs:Nat)(t:TypeId)(len:Nat)(parts:Array (Nat×Operand))(k:a9->Option R):Option R:=
 p6 tab t λet te=>AU env parts.toList λps=>
 let z:=d7 te
 let vs:=pU (List.replicate len z) ps
 bif rQ len ps&&Nat.ble len 4096&&Nat.ble 1 te.n&&Nat.ble te.n 4096&&oQ te.n (z::ps.map (·.2))&&oQ te.n vs then
  match te.tk with
  | .int kd=>bif Nat.beq te.n 1 then(match y9 kd vs with|some xs=>F8 (boxed||Nat.beq len 0) rs (.ts false false (.int kd) xs) [] [] k|none=>none)else none
  |_=>bif vars then(bif qA (jB vs)then F8 (boxed||Nat.beq len 0) rs (.cells te.n (jB vs)) [] [] k else none)
   else(match te.ty with
    |some T=>Hk I mem te.ag T vs λxs β l=>F8 (boxed||Nat.beq len 0) rs (.ts β te.ag T xs) l (kW mem l) k
    |none=>none)
 else none
def wS(boxed:Bool)(mem:aE)(t:TypeId)(rs:Nat)(l c:KV)(k:a9->Option R):Option R:=
 p6 tab t λet te=>
 match l,c with
 | .lit (.int _ n),.lit (.int _ n')=>
  (match te.ty with
  |some T=>bif Nat.ble 1 te.n&&Nat.ble te.bytes 4096&&Nat.beq te.n T.size&&Nat.beq te.zero.length te.n then
    vJ I mem T (te.zero.map .lit) λz β l=>bif !(eX l)then none else I.guard ((n==n')&&decide (0≤n)&&Nat.ble n.toNat bF) (F8 boxed rs (.ts β te.ag T (List.replicate n.toNat z)) [] [] k)
   else none
  |none=>none)
 |_,_=>none
def Hj(t:TypeId)(x ix:KV)(k:a9->Option R):Option R:=
 match x,ix with
 | .agg cs,.lit (.int _ i)=>
  (match tab t with
  |some ti=>(match ti.tk with
   | .arr n e=>(match tab e with
    |some te=>bif !te.ag&&Nat.beq te.n 1 then I.guard (decide (0≤i)&&decide (i<(n:Int))) (MP I i.toNat cs 0 λv=>k (fK v))else none
    |none=>none)
   |_=>none)
  |none=>none)
 | .lit (.string s),.lit (.int _ i)=>
  (match tab t with
  |some ti=>(match ti.tk with
   | .str=>I.get (eO s) i λn=>k (fK (.lit (.int .u8 n)))
   |_=>none)
  |none=>none)
 |_,_=>none
def Ip(boxed raw vars:Bool)(o:Oper)(env:Nat->KV)(mem:aE)(rs:Nat)(k:a9->Option R):Option R:=
 match o.op with
 | .move x=>K8 tab boxed vars o.type rs env x k
 | .assign x=>K8 tab boxed vars o.type rs env x k
 | .pick c a b=>eB env c λc=>eB env a λa=>eB env b λb=>M5 I c a b λv=>k (fK v)
 | .alloc t=>(match tab t with|some ti=>bif Nat.ble 1 ti.zero.length&&qA (ti.zero.map .lit)then k ⟨.ptr rs 0 0 0,[],[(rs,⟨0,false,.cells 1 (ti.zero.map .lit)⟩)],[]⟩else none|none=>none)
 | .box t x=>eB env x λv=>(match tab t with|some ti=>bif Nat.beq v.cells.length ti.n&&Nat.ble 1 ti.n&&qA v.cells then k ⟨.ptr rs 0 0 0,[],[(rs,⟨0,false,.cells 1 v.cells⟩)],[]⟩else none|none=>none)
 | .build t parts=>AU env parts.toList λps=>
  (match tab t with
  |some ti=>
   (match ti.tk with
   | .st fs=>(match Cc (λi=>match dW fs i with|some q=>some (q.1,q.2.1)|none=>none) (d7 ti).cells ps with|some cs=>k (fK (.agg cs))|none=>none)
   | .arr _ e=>(match tab e with|some te=>(match Cc (λi=>some (i*te.n,te.n)) (d7 ti).cells ps with|some cs=>k (fK (.agg cs))|none=>none)|none=>none)
   |_=>none)
  |none=>none)
 | .buildSlice t len parts=>q5 I tab boxed vars env mem rs t len parts k
 | .load t a=>eB env a λa=>KX I tab t mem a k
 | .store t a x=>eB env a λa=>eB env x λx=>Kv I tab t mem a x k
 | .nilCheck x=>eB env x λv=>(match v with| .ptr _ _ _ _=>k (fK v)| .el _ _ _ _ _=>k (fK v)| .fn (.func _) _ _=>k (fK v)|_=>none)
 | .binOp op t x y _=>eB env x λx=>eB env y λy=>OU I tab op t x y λv=>k (fK v)
 | .unOp op _ x=>eB env x λx=>Pz op x λv=>k (fK v)
 | .convert src dst x=>eB env x λx=>CO I tab boxed src dst mem rs x k
 | .makeFunc fn first cap=>qE env first.toList λfi=>qE env cap.toList λca=>k (fK (.fn fn fi ca))
 | .makeSlice t l c=>eB env l λl=>eB env c λc=>wS I tab boxed mem t rs l c k
 | .slice t x lo hi mx=>eB env x λx=>IW env lo λlo=>IW env hi λhi=>IW env mx λmx=>JW I tab t mem x lo hi mx k
 | .fieldAddr s x f=>eB env x λx=>Hx tab s f λoff _ _=>
  (match x with
  | .ptr b g i c=>k (fK (.ptr b g i (c+off)))
  | .el β ag T x c=>k (fK (.el β ag T x (c+off)))
  |_=>none)
 | .field s x f=>eB env x λx=>Hx tab s f λoff n ft=>
  (match x with
  | .agg cs=>(match tab ft with
   |some tf=>bif tf.ag then bif Nat.ble (off+n) cs.length then k (fK (.agg ((cs.drop off).take n)))else none
     else(match dW cs off with|some v=>k (fK v)|none=>none)
   |none=>none)
  |_=>none)
 | .indexAddr t x ix=>eB env x λx=>eB env ix λix=>(match ix with| .lit (.int _ i)=>KP I tab t mem x i k|_=>none)
 | .index t x ix=>eB env x λx=>eB env ix λix=>Hj I tab t x ix k
 | .extract t ix=>eB env t λt=>(match t with| .tup vs=>(match dW vs ix with|some v=>k (fK v)|none=>none)|_=>none)
 | .call c=>qE env c.args.toList λargs=>
  (match c.callee with
  | .builtin b=>yW I tab boxed vars b c.argTypes.toList mem rs args k
  | .value f=>eB env f λf=>(match f with| .fn (.func g) fi ca=>NP I tab tbl raw vars g c.argTypes.toList fi args ca mem k|_=>none)
  | .invoke _ _=>none)
 |_=>none
def JF(rs:Nat)(t:TypeId)(l c:KV)(k:a9->Option R):Option R:=
 p6 tab t λet te=>
 match l,c with
 | .lit (.int _ n),.lit (.int _ n')=>
  (match te.ty with
  |some T=>bif Nat.ble 1 te.n&&Nat.ble te.bytes 4096&&Nat.beq te.zero.length te.n&&qA (te.zero.map .lit)&&dY te.ag (eE T)then
    (match NK (cM T) (te.zero.map .lit) 0 0 with
    |some a=>(match a.2 with
     | []=>eF I [] T a.1 λz _ _=>I.guard ((n==n')&&decide (0≤n)&&Nat.ble n.toNat bF) (k ⟨.msw rs 0,[],[(rs,⟨0,false,.os T (List.replicate n.toNat z) []⟩)],[]⟩)
     |_=>none)
    |none=>none)
   else none
  |none=>none)
 |_,_=>none
def pG:List KV->List (List KV)
 | []=> []
 |v::r=>v.cells::pG r
def GG(env:Nat->KV)(rs:Nat)(t:TypeId)(len:Nat)(parts:Array (Nat×Operand))(k:a9->Option R):Option R:=
 p6 tab t λet te=>AU env parts.toList λps=>
 let z:=d7 te
 let vs:=pU (List.replicate len z) ps
 match te.ty with
 |some T=>bif rQ len ps&&Nat.ble len 4096&&Nat.ble 1 te.n&&Nat.ble te.n 4096&&oQ te.n (z::ps.map (·.2))&&Nat.ble 1 len&&qA (jB vs)&&dY te.ag (eE T)then
   E8 I T (pG vs) 0 λxs hs=>k ⟨.msw rs 0,[],[(rs,⟨0,false,.os T xs hs⟩)],[]⟩
  else none
 |none=>none
def GD(t:TypeId)(rs:Nat)(k:a9->Option R):Option R:=
 p6 tab t λet te=>match te.ty with
 |some T=>bif dY te.ag (eE T)then k ⟨.msw rs 0,[],[(rs,⟨0,false,.os T [] []⟩)],[]⟩else none
 |none=>none
def On(own tk boxed raw vars:Bool)(o:Oper)(env:Nat->KV)(mem:aE)(rs:Nat)(k:a9->Option R):Option R:=
 match o.op with
 | .move x=>bif own&&iS x then GD tab o.type rs k else Ip I tab tbl boxed raw vars o env mem rs k
 | .assign x=>bif own&&iS x then GD tab o.type rs k else Ip I tab tbl boxed raw vars o env mem rs k
 | .buildSlice t len parts=>bif own then GG I tab env rs t len parts k else Ip I tab tbl boxed raw vars o env mem rs k
 | .makeSlice t l c=>bif own then eB env l λl=>eB env c λc=>JF I tab rs t l c k else Ip I tab tbl boxed raw vars o env mem rs k
 | .load t a=>eB env a λv=>bif Dj mem v then KA I tab tk t mem v k else Ip I tab tbl boxed raw vars o env mem rs k
 | .store t a x=>eB env a λv=>bif Dj mem v then eB env x λx=>Hn I tab t mem v x k else Ip I tab tbl boxed raw vars o env mem rs k
 | .slice t x lo hi mx=>eB env x λv=>bif wC mem v then IW env lo λlo=>IW env hi λhi=>IW env mx λmx=>Hi I tab t mem v lo hi mx k else Ip I tab tbl boxed raw vars o env mem rs k
 | .indexAddr t x ix=>eB env x λv=>bif wC mem v then eB env ix λix=>(match ix with| .lit (.int _ i)=>Hu I tab t mem v i k|_=>none)else Ip I tab tbl boxed raw vars o env mem rs k
 | .call c=>
  (match c.callee with
  | .builtin .len=>qE env c.args.toList λargs=>(match c.argTypes.toList,args with
   | [t],[x]=>bif Lb mem x then MT tab t mem x k else Ip I tab tbl boxed raw vars o env mem rs k
   |_,_=>Ip I tab tbl boxed raw vars o env mem rs k)
  | .builtin .append=>qE env c.args.toList λargs=>(match c.argTypes.toList,args with
   | [t,tx],[x,y]=>bif own||wC mem x then D4 I tab own t tx mem rs x y k else Ip I tab tbl boxed raw vars o env mem rs k
   |_,_=>none)
  |_=>Ip I tab tbl boxed raw vars o env mem rs k)
 |_=>Ip I tab tbl boxed raw vars o env mem rs k
def vA(mem:aE):List (Nat×cS)->aE
 | []=>mem
 |(b,x)::r=>vA (pE (some x) mem b) r
def a9.apply(o:a9)(mem:aE):aE:=vA mem o.wr++o.push
def GE(mem:aE)(rs:Nat):Bool:=
 match dW mem rs with
 |some none=>true
 |_=>false
def FK:aE->aE
 | []=> []
 |x::r=>match FK r with
  | []=>(match x with|none=> []|some b=> [some b])
  |y=>x::y
def GC:KV->Option (Nat×Nat×Nat×Nat)
 | .ptr b g i c=>some (b,g,i,c)
 |_=>none
def zS(x:cS):Option (Nat×Nat×List (Option (Nat×Nat×Nat×Nat))):=
 match x.row with
 | .cells e cs=>some (x.gen,e,cs.map GC)
 |_=>none
def lV(mem:aE)(b:Nat):Option (Nat×Nat×List (Option (Nat×Nat×Nat×Nat))):=
 match dW mem b with
 |some (some x)=>zS x
 |_=>none
def wP(mem:aE)(wr:List (Nat×cS))(b:Nat):Bool:=wr.all λq=>!(Nat.beq q.1 b)||GW (zS q.2) (lV mem b)
def Nn(op:Op)(mem:aE)(v:KV)(rd:List Nat):Bool:=
 Kf op&&(match GC v with|some _=>true|none=>false)&&(match rd with| [b]=>(match lV mem b with|some _=>true|none=>false)|_=>false)
def a9.tr(mk:Bool)(rs:Nat)(o:a9)(i:Nat)(op:Op)(mem:aE):Tr:={i,rc:=Nn op mem o.v o.rd,wk:=wP mem o.wr,rd:=o.rd,wr:=bif mk then rs::o.wr.map (·.1)else o.wr.map (·.1),push:=match o.push with| []=>false|_=>true}
def LC(h:Option Int)(v:KV)(k:KV->Option R):Option R:=
 match h with
 |none=>k v
 |some x=>match v with
  | .lit (.int kd y)=>I.guard (decide (y=x)) (k (.lit (.int kd x)))
  |_=>none
def JX(an:kQ)(tk:Bool)(rid:Nat)(ds:List (Option Tmp)):List Oper->Nat->Nat->wH->List Tr->(wH->List Tr->Option R)->Option R
 | [],_,_,st,tr,k=>k st tr
 |o::rest,i,rs,st,tr,k=>
  let mk:=dJ o.op
  let rs':=bif mk then rs+1 else rs
  let run (env:Nat->KV):Option R:=bif(bif mk then GE st.mem rs else true)then On I tab tbl (bD rid i an.own) tk (bD rid i an.boxed) (bD rid i an.raw) (bD rid i an.vars) o env st.mem rs λout=>
   LC I (Aq rid i an.hint) out.v λv=>JX an tk rid ds rest (i+1) rs' ⟨yJ env o.dst v,out.apply st.mem⟩ (out.tr mk rs i o.op st.mem::tr) k else none
  let skip (env:Nat->KV):Option R:=JX an tk rid ds rest (i+1) rs' ⟨yJ env o.dst (.lit undef),st.mem⟩ tr k
  match o.guard with
  |none=>run st.env
  |some (j,want)=>
   match dW ds j with
   |some (some d)=>
    (match st.env d with
    | .lit (.bool b)=>
     I.ite b ((λenv=>bif want then run env else skip env) (lT st.env d (.lit (.bool true)))) ((λenv=>bif want then skip env else run env) (lT st.env d (.lit (.bool false))))
    | .lit (.tuple _)=>skip st.env
    |_=>none)
   |_=>none
def mI(an:kQ)(rid:Nat)(ops:Array Oper)(draw:Bool)(st:wH)(k:wH->Option R):Option R:=
 let n:=nJ ops.toList
 JX I tab tbl an (!draw) rid (ops.toList.map (·.dst)) ops.toList 0 st.mem.length ⟨st.env,st.mem++List.replicate n none⟩ [] λst' tr=>
  bif !draw||GF ops (st.mem.length+n) tr then k ⟨st'.env,FK st'.mem⟩else none
def mP(env:Nat->KV)(c:Operand)(b:Bool):Nat->KV:=
 match c with
 | .tmp d=>lT env d (.lit (.bool b))
 |_=>env
def vU(keep:Bool)(old:List (Option Bool))(live:List Nat)(st:wH)(k:wH->Option R):Option R:=
 qE st.env (live.map .tmp) λvs=>AF I keep old vs st.mem λvs' mem'=>k ⟨dD live vs',mem'⟩
def MZ(mem:aE)(off:Nat)(v:KV)(k:KV->Option R):Option R:=
 match v with
 | .ptr b g i c=>mH mem b g λx=>(match x.row with
  | .cells e cs=>(match dW cs (i*e+c+off)with|some v=>k v|none=>none)
  |_=>none)
 |v=>k v
def GB(mem:aE)(s:KV)(n c:Nat)(k:aE->Option R):Option R:=
 match s with
 | .msw b g=>p9 mem b g λbx=>(match bx.row with
  | .os T xs hs=>I.getN xs n λx=>(match dW (cellsOf true T x) c with
   |some (.tsl β ag T' ys)=>AE I true n c (.tsl β ag T' ys) hs mem.length λ_ hs' rows=>k (pE (some ⟨bx.gen,bx.frz,.os T xs hs'⟩) mem b++oB rows)
   |_=>none)
  |_=>none)
 |_=>none
def GI(mem:aE)(off:Nat)(v:KV)(k:aE->Option R):Option R:=
 match v with
 | .ptr b g i c=>mH mem b g λx=>(match x.row with
  | .cells e cs=>(match dW cs (i*e+c+off)with
   |some (.msw b1 g1)=>mH mem b1 g1 λy=>k (pE (some ⟨x.gen,x.frz,.cells e (pE (.ms b1 g1 0 (eD y.row)) cs (i*e+c+off))⟩) mem b)
   |_=>k mem)
  |_=>none)
 |_=>none
def Nx(env:Nat->KV)(mem:aE)(q:Operand×Nat×Operand×Nat)(k:aE->Option R):Option R:=
 eB env q.1 λp=>bif Nat.beq q.2.2.2 999 then GI mem q.2.1 p k else MZ mem q.2.1 p λs=>eB env q.2.2.1 λv=>
  match v with
  | .lit (.int _ n)=>I.guard (decide (0≤n)) (GB I mem s n.toNat q.2.2.2 k)
  |_=>none
def HL(env:Nat->KV):List (Operand×Nat×Operand×Nat)->aE->(aE->Option R)->Option R
 | [],mem,k=>k mem
 |q::r,mem,k=>Nx I env mem q λmem'=>HL env r mem' k
def B4(an:kQ)(rid:Nat)(old:List (Option Bool))(st:wH)(k:wH->Option R):Option R:=
 match cP rid an.tidy with
 |none=>k st
 |some q=>bif c9 0 q.1 then qE st.env (q.1.map .tmp) λvs=>JT I old.length vs st.mem λmem=>HL I (dD q.1 vs) q.2 mem λmem'=>k ⟨dD q.1 vs,mem'⟩else none
variable (loops:Nat->Option aT)
def iX(an:kQ)(old:List (Option Bool)):Code->Nat->wH->(JC->wH->Option R)->Option R
 | .skip,_,st,k=>k .normal st
 | .ret,_,st,k=>k .ret st
 | .exit id,_,st,k=>k (.exit id) st
 | .seq a b,bid,st,k=>iX an old a bid st λe st'=>
  match e with
  | .normal=>iX an old b bid st' k
  | .exit id=>k (.exit id) st'
  | .ret=>k .ret st'
  | .goto l=>k (.goto l) st'
 | .cond c x y,bid,st,k=>eB st.env c λv=>
  match v with
  | .lit (.bool t)=>I.ite t (iX an old x bid ⟨mP st.env c true,st.mem⟩ k) (iX an old y bid ⟨mP st.env c false,st.mem⟩ k)
  | .unkB=>I.amb (iX an old x bid st k) (iX an old y bid st k)
  |_=>none
 | .block id c,_,st,k=>iX an old c id st λe st'=>
  match e with
  | .normal=>k .normal st'
  | .exit j=>bif Nat.beq j id then k .normal st' else k (.exit j) st'
  | .ret=>k .ret st'
  | .goto l=>k (.goto l) st'
 | .loop c,bid,st,k=>bif Nat.ble 500 bid then none else
  match cP bid an.live with
  |some live=>vU I (dL bid an.keep) old live st λst1=>
   (match loops bid with
   |some L=>(match sB false L.heads .normal st1 with
    |some s=>I.bind (L.run s) λx=>D3 I L.outs x k
    |none=>I.loop bid st1 k)
   |none=>I.loop bid st1 k)
  |none=>none
 | .region rid ops draw,_,st,k=>B4 I an rid old st λst=>mI I tab tbl an rid ops draw st (λst'=>k .normal st')
 | .goto l,_,st,k=>k (.goto l) st
 | .scope (.seq (.region r1 o1 d1) (.seq (.region r2 o2 d2) (.seq (.label l) b))),_,st,k=>
  B4 I an r1 old st λst=>mI I tab tbl an r1 o1 d1 st λst=>
  B4 I an r2 old st λst=>mI I tab tbl an r2 o2 d2 st λst=>
  match cP (bO l) an.live with
  |some live=>vU I (dL (bO l) an.keep) old live st λst1=>
   (match loops (bO l) with
   |some L=>(match sB false L.heads .normal st1 with
    |some s=>I.bind (L.run s) λx=>D3 I L.outs x k
    |none=>I.loop (bO l) st1 k)
   |none=>I.loop (bO l) st1 k)
  |none=>none
 |_,_,_,_=>none
def KI(env:Nat->KV)(mem:aE):List ResultVar->(List KV->Option R)->Option R
 | [],k=>k []
 | .tmp t::r,k=>eB env (.tmp t) λv=>KI env mem r λvs=>k (v::vs)
 | .cell a t::r,k=>eB env (.tmp a) λa=>KX I tab t mem a λo=>KI env mem r λvs=>k (o.v::vs)
def sX:List KV->KV
 | [v]=>v
 |vs=> .tup vs
def Pn(fn:Func)(old:List (Option Bool))(e:JC)(st:wH)(k:KV->aE->Option R):Option R:=
 match e with
 | .exit _=>none
 | .goto _=>none
 |_=>KI I tab st.env st.mem fn.results.toList λvs=>AF I true old [sX vs] st.mem λws mem'=>(match ws with| [v]=>k v mem'|_=>none)
def HP(args:List KV)(n:Nat):Nat->KV:=λt=>
 match dW args t with
 |some v=>v
 |none=>bif Nat.blt t n then .lit undef else .gone
def Oy(an:kQ)(fn:Func)(args:List KV)(mem:aE)(k:KV->aE->Option R):Option R:=
 match fn.body with
 |some c=>iX I tab tbl loops an (eV mem) c 0 ⟨HP args fn.ntmps,mem⟩ λe st=>Pn I tab fn (eV mem) e st k
 |none=>none
def NW(an:kQ)(fn:Func)(a:kN)(r:List kN)(d:a.den)(k:dV r->Option R):Option R:=
 Oy I tab tbl loops an fn (c6 a.sh (P2.fst a.sh.dflt _ _ d)) (fM a.msh (P2.snd a.msh.dflt _ _ d)) λv mem=>
  match sB true r .ret ⟨dD [0] [v],mem⟩with
  |some b=>k b
  |none=>none
def eK:Code->Nat->List (Nat×Code)
 | .seq a b,bid=>eK a bid++eK b bid
 | .cond _ x y,bid=>eK x bid++eK y bid
 | .block id c,_=>eK c id
 | .loop c,bid=>(bid,c)::eK c bid
 | .scope (.seq (.region _ _ _) (.seq (.region _ _ _) (.seq (.label l) b))),_=>(bO l,b)::eK b (bO l)
 |_,_=> []
def A1(an:kQ)(old:List (Option Bool))(c:Code)(bid:Nat)(live:List Nat)(heads outs:List kN)(s:dV heads)(k:dV heads⊕dV outs->Option R):Option R:=
 D3 I heads s λ_ st0=>iX I tab tbl loops an old c bid st0 λe st=>
  match e with
  | .normal=>bif Nat.ble 500 bid then none else vU I (dL bid an.keep) old live st λst1=>(match sB false heads .normal st1 with|some s'=>k (.inl s')|none=>none)
  | .goto l=>bif Nat.beq (bO l) bid then vU I (dL bid an.keep) old live st λst1=>(match sB false heads .normal st1 with|some s'=>k (.inl s')|none=>none)else none
  | .exit id=>(match sB false outs (.exit id) st with|some x=>k (.inr x)|none=>none)
  | .ret=>(match sB false outs .ret st with|some x=>k (.inr x)|none=>none)
end
end
end Go.Ab
