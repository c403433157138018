import Derived.Test.YtjjjbgicidhpfaaDoorLib6
set_option linter.unusedVariables false
set_option linter.unusedSectionVars false
namespace Go.Ab
noncomputable section
inductive Sh where
 |int (k:IntKind)|bool|str
 |nilS|nilP|undef
 |sl (β ag:Bool) (T:Ty)
 |el (β ag:Bool) (T:Ty) (c:Nat)
 |ptr (b g i c:Nat)
 |ptrI (b g c:Nat)
 |ms (b g:Nat)
 |msw (b g:Nat)
 |fn (f:FuncId) (fi ca:Sh)
 |agg (l:Sh)
 |tup (l:Sh)
 |nil
 |cons (a b:Sh)
 |bnone
 |bts (gen:Nat) (frz β ag:Bool) (T:Ty)
 |bcells (gen:Nat) (frz:Bool) (e:Nat) (l:Sh)
 |bos (gen:Nat) (frz:Bool) (T:Ty) (l:Sh)
def P2(ua ub:Bool)(A B:Type):Type:=Bool.rec (Bool.rec (A×B) A ub) B ua
def P2.mk{A B:Type}:(ua ub:Bool)->A->B->P2 ua ub A B
 |true,_,_,b=>b
 |false,true,a,_=>a
 |false,false,a,b=>(a,b)
def P2.fst{A B:Type}(da:A):(ua ub:Bool)->P2 ua ub A B->A
 |true,_,_=>da
 |false,true,p=>p
 |false,false,p=>p.1
def P2.snd{A B:Type}(db:B):(ua ub:Bool)->P2 ua ub A B->B
 |true,_,p=>p
 |false,true,_=>db
 |false,false,p=>p.2
def Sh.un(s:Sh):Bool:=
 Sh.rec (λ_=>false) false false true true true (λ_ _ _=>false) (λ_ _ _ _=>false) (λ_ _ _ _=>true) (λ_ _ _=>false) (λ_ _=>false) (λ_ _=>true)
  (λ_ _ _ a b=>JZ a b) (λ_ a=>a) (λ_ a=>a) true (λ_ _ a b=>JZ a b) true (λ_ _ _ _ _=>false) (λ_ _ _ _ a=>a) (λ_ _ _ _ _=>false) s
def Sh.den(s:Sh):Type:=
 Sh.rec (λ_=>Int) Bool ByteArray Unit Unit Unit (λ_ _ T=>List (Go.Ab.den T)) (λ_ _ T _=>Go.Ab.den T) (λ_ _ _ _=>Unit) (λ_ _ _=>Nat) (λ_ _=>Nat×Nat) (λ_ _=>Unit)
  (λ_ fi ca a b=>P2 fi.un ca.un a b) (λ_ a=>a) (λ_ a=>a) Unit (λa b x y=>P2 a.un b.un x y) Unit (λ_ _ _ _ T=>List (Go.Ab.den T)) (λ_ _ _ _ a=>a) (λ_ _ T l a=>P2 false l.un (List (Go.Ab.den T)) a) s
def Sh.dflt:(s:Sh)->s.den
 | .int _=>(0:Int)
 | .bool=>false
 | .str=>ByteArray.empty
 | .nilS| .nilP| .undef| .ptr _ _ _ _| .msw _ _| .nil| .bnone=>()
 | .sl _ _ _=>([]:List _)
 | .el _ _ T _=>dT T
 | .ptrI _ _ _=>(0:Nat)
 | .ms _ _=>((0,0):Nat×Nat)
 | .fn _ fi ca=>P2.mk _ _ fi.dflt ca.dflt
 | .agg l=>l.dflt
 | .tup l=>l.dflt
 | .cons a b=>P2.mk _ _ a.dflt b.dflt
 | .bts _ _ _ _ _=>([]:List _)
 | .bcells _ _ _ l=>l.dflt
 | .bos _ _ _ l=>P2.mk false l.un [] l.dflt
 where
 dT:(T:Ty)->Go.Ab.den T
 | .int _=>(0:Int)
 | .bool=>false
 | .str=>ByteArray.empty
 | .sl _ _=>([]:List _)
 | .cons a b=>(dT a,dT b)
def iW(a b:Nat):Bool:=Nat.beq a b
def fQ(nz:Bool):(s:Sh)->List KV->Option s.den
 | .int k,vs=>(match vs with| [.lit (.int k' x)]=>bif jS k k' then some x else none|_=>none)
 | .bool,vs=>(match vs with| [.lit (.bool x)]=>some x|_=>none)
 | .str,vs=>(match vs with| [.lit (.string x)]=>some x|_=>none)
 | .nilS,vs=>(match vs with| [.lit (.slice none 0 0)]=>some ()|_=>none)
 | .nilP,vs=>(match vs with| [.lit (.pointer none)]=>some ()|_=>none)
 | .undef,vs=>(match vs with| [.lit (.tuple a)]=>(match a.toList with| []=>some ()|_=>none)|_=>none)
 | .sl β ag T,vs=>(match vs with
  | [.tsl β' ag' T' xs]=>bif(fJ β β'||(nz&&β))&&fJ ag ag' then vB T' T xs else none
  | [.lit (.slice none 0 0)]=>bif nz then some []else none
  |_=>none)
 | .el β ag T c,vs=>(match vs with
  | [.el β' ag' T' x c']=>bif(fJ β β'||(nz&&β))&&fJ ag ag'&&iW c c' then KP (F:=Go.Ab.den) (Ty.beq T' T) rfl x else none
  |_=>none)
 | .ptr b g i c,vs=>(match vs with| [.ptr b' g' i' c']=>bif iW b b'&&iW g g'&&iW i i'&&iW c c' then some ()else none|_=>none)
 | .ptrI b g c,vs=>(match vs with| [.ptr b' g' i c']=>bif iW b b'&&iW g g'&&iW c c' then some i else none|_=>none)
 | .ms b g,vs=>(match vs with| [.ms b' g' o n]=>bif iW b b'&&iW g g' then some (o,n)else none|_=>none)
 | .msw b g,vs=>(match vs with| [.msw b' g']=>bif iW b b'&&iW g g' then some ()else none|_=>none)
 | .fn f fi ca,vs=>(match vs with
  | [.fn (.func f') fi' ca']=>bif iW f f' then
    (match fQ nz fi fi' with
    |some x=>(match fQ nz ca ca' with|some y=>some (P2.mk _ _ x y)|none=>none)
    |none=>none)else none
  |_=>none)
 | .agg l,vs=>(match vs with| [.agg cs]=>fQ nz l cs|_=>none)
 | .tup l,vs=>(match vs with| [.tup cs]=>fQ nz l cs|_=>none)
 | .nil,vs=>(match vs with| []=>some ()|_=>none)
 | .cons a b,vs=>(match vs with
  |v::r=>
   (match fQ nz a [v] with
   |some x=>(match fQ nz b r with|some y=>some (P2.mk _ _ x y)|none=>none)
   |none=>none)
  | []=>none)
 | .bnone,_=>none
 | .bts _ _ _ _ _,_=>none
 | .bcells _ _ _ _,_=>none
 | .bos _ _ _ _,_=>none
def eD:(s:Sh)->s.den->List KV
 | .int k,x=> [.lit (.int k x)]
 | .bool,x=> [.lit (.bool x)]
 | .str,x=> [.lit (.string x)]
 | .nilS,_=> [.lit (.slice none 0 0)]
 | .nilP,_=> [.lit (.pointer none)]
 | .undef,_=> [.lit (.tuple #[])]
 | .sl β ag T,xs=> [.tsl β ag T xs]
 | .el β ag T c,x=> [.el β ag T x c]
 | .ptr b g i c,_=> [.ptr b g i c]
 | .ptrI b g c,i=> [.ptr b g i c]
 | .ms b g,p=> [.ms b g (Prod.fst p) (Prod.snd p)]
 | .msw b g,_=> [.msw b g]
 | .fn f fi ca,p=> [.fn (.func f) (eD fi (P2.fst fi.dflt _ _ p)) (eD ca (P2.snd ca.dflt _ _ p))]
 | .agg l,p=> [.agg (eD l p)]
 | .tup l,p=> [.tup (eD l p)]
 | .nil,_=> []
 | .cons a b,p=>eD a (P2.fst a.dflt _ _ p)++eD b (P2.snd b.dflt _ _ p)
 | .bnone,_=> []
 | .bts _ _ _ _ _,_=> []
 | .bcells _ _ _ _,_=> []
 | .bos _ _ _ _,_=> []
def m6:dL->List KV
 | []=> []
 |h::r=> .agg [.ptr 0 0 h.1 h.2.1,h.2.2]::m6 r
def Ws:KV->Option (Nat×Nat×KV)
 | .agg cs=>(match cs with
  | [a,v]=>(match a with| .ptr _ _ i c=>some (i,c,v)|_=>none)
  |_=>none)
 |_=>none
def kW:List KV->dL
 | []=> []
 |v::r=>(match Ws v with|some h=>h::kW r|none=>kW r)
def C3(nz:Bool):(s:Sh)->aH->Option s.den
 | .nil,m=>(match m with| []=>some ()|_=>none)
 | .cons a b,m=>(match m with
  |x::r=>
   (match C3 nz a [x] with
   |some x=>(match C3 nz b r with|some y=>some (P2.mk _ _ x y)|none=>none)
   |none=>none)
  | []=>none)
 | .bnone,m=>(match m with| [none]=>some ()|_=>none)
 | .bts gen frz β ag T,m=>(match m with
  | [some ⟨gen',frz',.ts β' ag' T' xs⟩]=>bif iW gen gen'&&fJ frz frz'&&fJ β β'&&fJ ag ag' then vB T' T xs else none
  |_=>none)
 | .bcells gen frz e l,m=>(match m with
  | [some ⟨gen',frz',.cells e' cs⟩]=>bif iW gen gen'&&fJ frz frz'&&iW e e' then fQ false l cs else none
  |_=>none)
 | .bos gen frz T l,m=>(match m with
  | [some ⟨gen',frz',.os T' xs hs⟩]=>bif iW gen gen'&&fJ frz frz' then
    (match vB T' T xs with
    |some ys=>(match fQ false l (m6 hs)with|some p=>some (P2.mk false l.un ys p)|none=>none)
    |none=>none)else none
  |_=>none)
 |_,_=>none
def jC:(s:Sh)->s.den->aH
 | .nil,_=> []
 | .cons a b,p=>jC a (P2.fst a.dflt _ _ p)++jC b (P2.snd b.dflt _ _ p)
 | .bnone,_=> [none]
 | .bts gen frz β ag T,xs=> [some ⟨gen,frz,.ts β ag T xs⟩]
 | .bcells gen frz e l,p=> [some ⟨gen,frz,.cells e (eD l p)⟩]
 | .bos gen frz T l,p=> [some ⟨gen,frz,.os T (P2.fst (A:=List (Go.Ab.den T)) [] false l.un p) (kW (eD l (P2.snd l.dflt false l.un p)))⟩]
 |_,_=> []
structure oU where
 ex:O3
 slots:List Nat
 sh:Sh
 msh:Sh
def oU.den(s:oU):Type:=P2 s.sh.un s.msh.un s.sh.den s.msh.den
def eK:List Nat->List KV->Nat->KV
 |s::ss,v::vs=>λt=>bif Nat.beq t s then v else eK ss vs t
 |_,_=>λ_=> .gone
def mA(env:Nat->KV):List Nat->List KV
 | []=> []
 |s::r=>env s::mA env r
def HU:O3->O3->Bool
 | .normal,.normal=>true
 | .exit a,.exit b=>Nat.beq a b
 | .goto a,.goto b=>Nat.beq a b
 | .ret,.ret=>true
 |_,_=>false
def rL(nz:Bool)(s:oU)(st:BC):Option s.den:=
 match fQ nz s.sh (mA st.env s.slots)with
 |some x=>(match C3 nz s.msh st.mem with|some y=>some (P2.mk _ _ x y)|none=>none)
 |none=>none
def zK(s:oU)(d:s.den):BC:=⟨eK s.slots (eD s.sh (P2.fst s.sh.dflt _ _ d)),jC s.msh (P2.snd s.msh.dflt _ _ d)⟩
def fG:List oU->Type
 | []=>Empty
 | [a]=>a.den
 |a::b::r=>a.den⊕fG (b::r)
def Ap(nz:Bool):(l:List oU)->O3->BC->Option (fG l)
 | [],_,_=>none
 | [a],e,st=>bif HU a.ex e then rL nz a st else none
 |a::b::r,e,st=>match(bif HU a.ex e then rL nz a st else none)with
  |some x=>some (Sum.inl x)
  |none=>(match Ap nz (b::r) e st with|some y=>some (Sum.inr y)|none=>none)
def Cc{R:Type}(I:WS R):(l:List oU)->fG l->(O3->BC->Option R)->Option R
 | [],_,_=>none
 | [a],d,k=>k a.ex (zK a d)
 |a::b::r,d,k=>I.sum d (λx=>k a.ex (zK a x)) (λy=>Cc I (b::r) y k)
structure aG where
 a:oU
 r:List oU
 sh:a.den->Option (fG r)
structure aQ where
 heads:List oU
 outs:List oU
 run:fG heads->Option (fG outs)
def aM{S X:Type}(B:S->Option (S⊕X))(n:Nat):S->Option X:=
 Nat.rec (λ_=>none) (λ_ ih s=>(B s).bind λq=>Sum.rec (λs'=>ih s') (λx=>some x) q) n
section
variable {R:Type} (I:WS R) (tab:TypeId->Option TI)
def eG:Nat->List Nat->Bool
 |_,[]=>true
 |n,a::r=>Nat.ble n a&&eG (a+1) r
variable [cS]
def Rf(boxed vars:Bool)(t:TypeId)(rs:Nat)(env:Nat->KV)(x:Operand)(k:bK->Option R):Option R:=
 bif l9 x&&boxed&&!vars then
  (match tab t with
  |some ti=>(match ti.tk with| .sl et=>Ai tab et λrow=>k ⟨.msw rs 0,[],[(rs,⟨0,false,row⟩)],[]⟩|_=>none)
  |none=>none)
 else f8 env x λv=>
  match v with
  | .lit (.slice none 0 0)=>
   bif boxed then k (jB v)else
   (match tab t with
   |some ti=>(match ti.tk with| .sl et=>Ai tab et λrow=>(match row with| .ts β ag T xs=>k (jB (.tsl β ag T xs))|_=>none)|_=>none)
   |none=>none)
  |v=>k (jB v)
def Ti(c a b:KV)(k:KV->Option R):Option R:=
 match c with
 | .lit (.bool t)=>
  match a,b with
  | .lit (.bool x),.lit (.bool y)=>k (.lit (.bool (bif t then x else y)))
  |_,_=>I.ite t (k a) (k b)
 |_=>none
def IS(boxed:Bool)(src dst:TypeId)(mem:aH)(rs:Nat)(x:KV)(k:bK->Option R):Option R:=
 match tab src,tab dst with
 |some s,some d=>
  match s.tk,d.tk with
  | .int _,.int kd=>(match x with| .lit (.int _ n)=>k (jB (.lit (.int kd (bJ kd n))))|_=>none)
  | .str,.str=>(match x with| .lit (.string b)=>k (jB (.lit (.string b)))|_=>none)
  | .sl e,.str=>
   (match tab e with
   |some te=>
    (match te.tk with
    | .int ke=>bif jS ke .u8&&Nat.beq te.n 1&&I1 tab src x then MY I tab e mem x λrow rd=>
      (match row with
      | .ts _ ag (.int ke') xs=>bif jS ke' .u8&&!ag then k ⟨.lit (.string (s9 xs)),rd,[],[]⟩else none
      |_=>none)else none
    |_=>none)
   |none=>none)
  | .sl _,.sl e=>
   (match tab e, x with
   |some te,.msw b g=>
    (match te.tk with
    | .int ke=>bif jS ke .u8&&Nat.beq src dst then qR mem b g λx=>I.guard (Nat.ble 1 (gD x.row)) (k ⟨.msw b g,[b],[],[]⟩)else none
    |_=>none)
   |_,_=>none)
  |_,_=>none
 |_,_=>none
def sK(mem:aH)(t:TypeId)(v:KV)(k:KV->List Nat->Option R):Option R:=
 match v with
 | .msw _ _| .ms _ _ _ _=>
  (match tab t with
  |some ti=>bif ti.ag then none else(match ti.ty with
   |some (.sl ag T)=>Bj I mem (.sl ag T) [v] λxs _ l=>k (.tsl true ag T xs) l
   |_=>none)
  |none=>none)
 | .agg cs=>bif hasMsK cs then
   (match tab t with
   |some ti=>(match ti.ty with|some T=>lendCellsK mem (dO T) cs λvs l=>k (.agg vs) l|none=>none)
   |none=>none)
  else k (.agg cs) []
 |v=>k v []
 where
 hasMsK:List KV->Bool
  | []=>false
  | .msw _ _::_=>true
  | .ms _ _ _ _::_=>true
  |_::r=>hasMsK r
 lendCellsK (mem:aH):List Ty->List KV->(List KV->List Nat->Option R)->Option R
  | [],[],k=>k [] []
  |T::Ts,v::vs,k=>
   (match v with
   | .msw _ _| .ms _ _ _ _=>
    (match T with
    | .sl ag T=>Bj I mem (.sl ag T) [v] λxs _ l=>lendCellsK mem Ts vs λws l'=>k (.tsl true ag T xs::ws) (l++l')
    |_=>none)
   |v=>lendCellsK mem Ts vs λws l'=>k (v::ws) l')
  |_,_,_=>none
def CW(mem:aH):List TypeId->List KV->(List KV->List Nat->Option R)->Option R
 | [],[],k=>k [] []
 |t::ts,v::vs,k=>sK I tab mem t v λw l=>CW mem ts vs λws l'=>k (w::ws) (l++l')
 |_,_,_=>none
def qG(mem sub:aH)(ids:List Nat):mS:=λb g=>
  (match fD ids b with
  |some a=>(match fD sub b,Au mem a with
   |some (some x),some h=>bif Nat.beq x.gen g then some (a,h+x.gen)else none
   |_,_=>none)
  |none=>bif Nat.beq g 0&&Nat.blt b sub.length then some (mem.length+(b-ids.length),0)else none)
def lE(f:mS)(mem:aH):List Nat->aH->List (Nat×dW)
 |a::ids,some x::r=>(a,⟨(match Au mem a with|some h=>h+x.gen|none=>0),x.frz,x.row.ren f⟩)::lE f mem ids r
 |_::ids,none::r=>lE f mem ids r
 |_,_=> []
def AQ(f:mS):aH->aH
 | []=> []
 |some x::r=>some ⟨0,x.frz,x.row.ren f⟩::AQ f r
 |none::r=>none::AQ f r
variable (tbl:FuncId->List aG)
def mU:Sh->List KV->Bool
 | .int _,vs=>(match vs with| [.lit (.int _ _)]=>true|_=>false)
 | .bool,vs=>(match vs with| [.lit (.bool _)]=>true|_=>false)
 | .str,vs=>(match vs with| [.lit (.string _)]=>true|_=>false)
 | .nilS,vs=>(match vs with| [.lit (.slice none 0 0)]=>true|_=>false)
 | .nilP,vs=>(match vs with| [.lit (.pointer none)]=>true|_=>false)
 | .undef,vs=>(match vs with| [.lit (.tuple _)]=>true|_=>false)
 | .sl _ _ _,vs=>(match vs with| [.tsl _ _ _ _]=>true| [.lit (.slice none 0 0)]=>true|_=>false)
 | .el _ _ _ c,vs=>(match vs with| [.el _ _ _ _ c']=>iW c c'|_=>false)
 | .ptr b g i c,vs=>(match vs with| [.ptr b' g' i' c']=>iW b b'&&iW g g'&&iW i i'&&iW c c'|_=>false)
 | .ptrI b g c,vs=>(match vs with| [.ptr b' g' _ c']=>iW b b'&&iW g g'&&iW c c'|_=>false)
 | .ms b g,vs=>(match vs with| [.ms b' g' _ _]=>iW b b'&&iW g g'|_=>false)
 | .msw b g,vs=>(match vs with| [.msw b' g']=>iW b b'&&iW g g'|_=>false)
 | .fn f fi ca,vs=>(match vs with| [.fn (.func f') fi' ca']=>iW f f'&&mU fi fi'&&mU ca ca'|_=>false)
 | .agg l,vs=>(match vs with| [.agg cs]=>mU l cs|_=>false)
 | .tup l,vs=>(match vs with| [.tup cs]=>mU l cs|_=>false)
 | .nil,vs=>(match vs with| []=>true|_=>false)
 | .cons a b,vs=>(match vs with|v::r=>mU a [v]&&mU b r| []=>false)
 | .bnone,_=>false
 | .bts _ _ _ _ _,_=>false
 | .bcells _ _ _ _,_=>false
 | .bos _ _ _ _,_=>false
def Gy:Sh->aH->Bool
 | .nil,m=>(match m with| []=>true|_=>false)
 | .cons a b,m=>(match m with|x::r=>Gy a [x]&&Gy b r| []=>false)
 | .bnone,m=>(match m with| [none]=>true|_=>false)
 | .bts gen frz _ _ _,m=>(match m with| [some ⟨gen',frz',.ts _ _ _ _⟩]=>iW gen gen'&&fJ frz frz'|_=>false)
 | .bcells gen frz e l,m=>(match m with| [some ⟨gen',frz',.cells e' cs⟩]=>iW gen gen'&&fJ frz frz'&&iW e e'&&mU l cs|_=>false)
 | .bos gen frz _ l,m=>(match m with| [some ⟨gen',frz',.os _ _ hs⟩]=>iW gen gen'&&fJ frz frz'&&mU l (m6 hs)|_=>false)
 |_,_=>false
def VE(g:FuncId)(args:List KV)(mem:aH)(k:KV->aH->Option R):List aG->Option R
 | []=>I.ask g args mem k
 |E::r=>bif mU E.a.sh args&&Gy E.a.msh mem then
   (match rL true E.a ⟨eK E.a.slots args, mem⟩ with
   |some a=>bif Nat.beq args.length E.a.slots.length then I.bind (E.sh a) λb=>Cc I E.r b λ_ st=>k (st.env 0) st.mem else none
   |none=>none)
  else VE g args mem k r
def WJ(g:FuncId)(args:List KV)(mem:aH)(k:KV->aH->Option R):Option R:=VE I g args mem k (tbl g)
def TF(keep:Bool)(mem:aH)(ts:List TypeId)(vs:List KV)(k:List KV->List Nat->Option R):Option R:=bif keep then k vs []else CW I tab mem ts vs k
def TD(raw keep:Bool)(g:FuncId)(ts:List TypeId)(fi args ca:List KV)(mem:aH)(k:bK->Option R):Option R:=
 TF I tab keep mem ts args λla lb=>
 let all:=fi++la++ca
 let ids:=Av mem (nC mem (KV.refsAll all).length) (KV.refsAll all) []
 bif eN ids&&zH lb ids then
  WJ I tbl g (KV.renAll (qD 0 true mem ids) all) (sT 0 true (qD 0 true mem ids) mem 0 ids) λv sub=>
  let m:=ids.length
  let r:=bif raw then v else AZ m sub v
  bif Nat.ble m sub.length&&(gV lb||!(v.lent||zL sub))then
   bif iH m r.refs&&iH m (kO (sub.take m))then
    k ⟨r.ren (qG mem (sub.take m) ids),lb++ids,lE (qG mem (sub.take m) ids) mem ids sub,[]⟩
   else
    k ⟨v.ren (qG mem sub ids),lb++ids,lE (qG mem sub ids) mem ids sub,AQ (qG mem sub ids) (sub.drop m)⟩
  else none
 else none
def S6(mem:aH)(t tx:TypeId)(rs:Nat)(n:Int)(k:bK->Option R):Option R:=
 match tab tx with
 |some tix=>(match tix.tk with
  | .int _=>x8 tab t λet te=>
   (match te.ty with
   |some T=>bif Nat.ble 1 te.n&&Nat.ble te.bytes 4096&&Nat.beq te.n T.size&&Nat.beq te.zero.length te.n&&!(bD te.ag T)then
     Bj I mem T (te.zero.map .lit) λz β l=>bif !(gV l)then none else I.guard (decide (1≤n)&&Nat.ble n.toNat bU) (k ⟨.msw rs 0,[],[(rs,⟨0,false,.ts β te.ag T (List.replicate n.toNat z)⟩)],[]⟩)
    else none
   |none=>none)
  |_=>none)
 |none=>none
def Ef(boxed vars:Bool)(b:Builtin)(ts:List TypeId)(mem:aH)(rs:Nat)(args:List KV)(k:bK->Option R):Option R:=
 match b with
 | .len=>(match ts,args with| [t],[x]=>Wi tab t mem x λn rd=>k ⟨.lit (.int .i64 n),rd,[],[]⟩|_,_=>none)
 | .append=>(match ts,args with| [t,tx],[x,y]=>(match x,y with| .lit (.slice none 0 0),.lit (.int _ n)=>S6 I tab mem t tx rs n k|_,_=>Lr I tab boxed vars t tx mem rs x y k)|_,_=>none)
 | .cap=>(match ts,args with| [t],[.lit (.slice none 0 0)]=>(match tab t with|some ti=>(match ti.tk with| .sl _=>k (jB (.lit (.int .i64 0)))|_=>none)|none=>none)|_,_=>none)
 | .min=>(match args with| .lit (.int kd a)::r=>(match yW U4 kd r a with|some v=>k (jB (.lit (.int kd v)))|none=>none)|_=>none)
 | .max=>(match args with| .lit (.int kd a)::r=>(match yW N3 kd r a with|some v=>k (jB (.lit (.int kd v)))|none=>none)|_=>none)
 |_=>none
def D3(k:IntKind):List KV->Option (List Int)
 | []=>some []
 | .lit (.int k' x)::r=>bif jS k k' then(match D3 k r with|some xs=>some (x::xs)|none=>none)else none
 |_::_=>none
def z9(boxed vars:Bool)(env:Nat->KV)(mem:aH)(rs:Nat)(t:TypeId)(len:Nat)(parts:Array (Nat×Operand))(k:bK->Option R):Option R:=
 x8 tab t λet te=>FN env parts.toList λps=>
 let z:=fW te
 let vs:=wU (List.replicate len z) ps
 bif y4 len ps&&Nat.ble len 4096&&Nat.ble 1 te.n&&Nat.ble te.n 4096&&s0 te.n (z::ps.map (·.2))&&s0 te.n vs then
  match te.tk with
  | .int kd=>bif Nat.beq te.n 1 then(match D3 kd vs with|some xs=>Kn (boxed||Nat.beq len 0) rs (.ts false false (.int kd) xs) [] [] k|none=>none)else none
  |_=>bif vars then(bif w5 (nD vs)then Kn (boxed||Nat.beq len 0) rs (.cells te.n (nD vs)) [] [] k else none)
   else(match te.ty with
    |some T=>Lp I mem te.ag T vs λxs β l=>Kn (boxed||Nat.beq len 0) rs (.ts β te.ag T xs) l (pN mem l) k
    |none=>none)
 else none
def Cp(boxed:Bool)(mem:aH)(t:TypeId)(rs:Nat)(l c:KV)(k:bK->Option R):Option R:=
 x8 tab t λet te=>
 match l,c with
 | .lit (.int _ n),.lit (.int _ n')=>
  (match te.ty with
  |some T=>bif Nat.ble 1 te.n&&Nat.ble te.bytes 4096&&Nat.beq te.n T.size&&Nat.beq te.zero.length te.n then
    Bj I mem T (te.zero.map .lit) λz β l=>bif !(gV l)then none else I.guard ((n==n')&&decide (0≤n)&&Nat.ble n.toNat bU) (Kn boxed rs (.ts β te.ag T (List.replicate n.toNat z)) [] [] k)
   else none
  |none=>none)
 |_,_=>none
def Lg(t:TypeId)(x ix:KV)(k:bK->Option R):Option R:=
 match x,ix with
 | .agg cs,.lit (.int _ i)=>
  (match tab t with
  |some ti=>(match ti.tk with
   | .arr n e=>(match tab e with
    |some te=>bif !te.ag&&Nat.beq te.n 1 then I.guard (decide (0≤i)&&decide (i<(n:Int))) (Ua I i.toNat cs 0 λv=>k (jB v))else none
    |none=>none)
   |_=>none)
  |none=>none)
 | .lit (.string s),.lit (.int _ i)=>
  (match tab t with
  |some ti=>(match ti.tk with
   | .str=>I.get (c7 s) i λn=>k (jB (.lit (.int .u8 n)))
   |_=>none)
  |none=>none)
 |_,_=>none
def O0(boxed raw vars:Bool)(o:Oper)(env:Nat->KV)(mem:aH)(rs:Nat)(k:bK->Option R):Option R:=
 match o.op with
 | .move x=>Rf tab boxed vars o.type rs env x k
 | .assign x=>Rf tab boxed vars o.type rs env x k
 | .pick c a b=>f8 env c λc=>f8 env a λa=>f8 env b λb=>Ti I c a b λv=>k (jB v)
 | .alloc t=>(match tab t with|some ti=>bif Nat.ble 1 ti.zero.length&&w5 (ti.zero.map .lit)then k ⟨.ptr rs 0 0 0,[],[(rs,⟨0,false,.cells 1 (ti.zero.map .lit)⟩)],[]⟩else none|none=>none)
 | .box t x=>f8 env x λv=>(match tab t with|some ti=>bif Nat.beq v.cells.length ti.n&&Nat.ble 1 ti.n&&w5 v.cells then k ⟨.ptr rs 0 0 0,[],[(rs,⟨0,false,.cells 1 v.cells⟩)],[]⟩else none|none=>none)
 | .build t parts=>FN env parts.toList λps=>
  (match tab t with
  |some ti=>
   (match ti.tk with
   | .st fs=>(match GP (λi=>match fD fs i with|some q=>some (q.1,q.2.1)|none=>none) (fW ti).cells ps with|some cs=>k (jB (.agg cs))|none=>none)
   | .arr _ e=>(match tab e with|some te=>(match GP (λi=>some (i*te.n,te.n)) (fW ti).cells ps with|some cs=>k (jB (.agg cs))|none=>none)|none=>none)
   |_=>none)
  |none=>none)
 | .buildSlice t len parts=>z9 I tab boxed vars env mem rs t len parts k
 | .load t a=>f8 env a λa=>QN I tab t mem a k
 | .store t a x=>f8 env a λa=>f8 env x λx=>P7 I tab t mem a x k
 | .nilCheck x=>f8 env x λv=>(match v with| .ptr _ _ _ _=>k (jB v)| .el _ _ _ _ _=>k (jB v)| .fn (.func _) _ _=>k (jB v)|_=>none)
 | .binOp op t x y _=>f8 env x λx=>f8 env y λy=>Wk I tab op t x y λv=>k (jB v)
 | .unOp op _ x=>f8 env x λx=>W4 op x λv=>k (jB v)
 | .convert src dst x=>f8 env x λx=>IS I tab boxed src dst mem rs x k
 | .makeFunc fn first cap=>w8 env first.toList λfi=>w8 env cap.toList λca=>k (jB (.fn fn fi ca))
 | .makeSlice t l c=>f8 env l λl=>f8 env c λc=>Cp I tab boxed mem t rs l c k
 | .slice t x lo hi mx=>f8 env x λx=>Nm env lo λlo=>Nm env hi λhi=>Nm env mx λmx=>Qi I tab t mem x lo hi mx k
 | .fieldAddr s x f=>f8 env x λx=>LH tab s f λoff _ _=>
  (match x with
  | .ptr b g i c=>k (jB (.ptr b g i (c+off)))
  | .el β ag T x c=>k (jB (.el β ag T x (c+off)))
  |_=>none)
 | .field s x f=>f8 env x λx=>LH tab s f λoff n ft=>
  (match x with
  | .agg cs=>(match tab ft with
   |some tf=>bif tf.ag then bif Nat.ble (off+n) cs.length then k (jB (.agg ((cs.drop off).take n)))else none
     else(match fD cs off with|some v=>k (jB v)|none=>none)
   |none=>none)
  |_=>none)
 | .indexAddr t x ix=>f8 env x λx=>f8 env ix λix=>(match ix with| .lit (.int _ i)=>PT I tab t mem x i k|_=>none)
 | .index t x ix=>f8 env x λx=>f8 env ix λix=>Lg I tab t x ix k
 | .extract t ix=>f8 env t λt=>(match t with| .tup vs=>(match fD vs ix with|some v=>k (jB v)|none=>none)|_=>none)
 | .call c=>w8 env c.args.toList λargs=>
  (match c.callee with
  | .builtin b=>Ef I tab boxed vars b c.argTypes.toList mem rs args k
  | .value f=>f8 env f λf=>(match f with| .fn (.func g) fi ca=>TD I tab tbl raw vars g c.argTypes.toList fi args ca mem k|_=>none)
  | .invoke _ _=>none)
 |_=>none
def Qz(rs:Nat)(t:TypeId)(l c:KV)(k:bK->Option R):Option R:=
 x8 tab t λet te=>
 match l,c with
 | .lit (.int _ n),.lit (.int _ n')=>
  (match te.ty with
  |some T=>bif Nat.ble 1 te.n&&Nat.ble te.bytes 4096&&Nat.beq te.zero.length te.n&&w5 (te.zero.map .lit)&&fJ te.ag (gF T)then
    (match Ub (dO T) (te.zero.map .lit) 0 0 with
    |some a=>(match a.2 with
     | []=>gG I [] T a.1 λz _ _=>I.guard ((n==n')&&decide (0≤n)&&Nat.ble n.toNat bU) (k ⟨.msw rs 0,[],[(rs,⟨0,false,.os T (List.replicate n.toNat z) []⟩)],[]⟩)
     |_=>none)
    |none=>none)
   else none
  |none=>none)
 |_,_=>none
def wA:List KV->List (List KV)
 | []=> []
 |v::r=>v.cells::wA r
def LN(env:Nat->KV)(rs:Nat)(t:TypeId)(len:Nat)(parts:Array (Nat×Operand))(k:bK->Option R):Option R:=
 x8 tab t λet te=>FN env parts.toList λps=>
 let z:=fW te
 let vs:=wU (List.replicate len z) ps
 match te.ty with
 |some T=>bif y4 len ps&&Nat.ble len 4096&&Nat.ble 1 te.n&&Nat.ble te.n 4096&&s0 te.n (z::ps.map (·.2))&&Nat.ble 1 len&&w5 (nD vs)&&fJ te.ag (gF T)then
   Jz I T (wA vs) 0 λxs hs=>k ⟨.msw rs 0,[],[(rs,⟨0,false,.os T xs hs⟩)],[]⟩
  else none
 |none=>none
def MI(t:TypeId)(rs:Nat)(k:bK->Option R):Option R:=
 x8 tab t λet te=>match te.ty with
 |some T=>bif fJ te.ag (gF T)then k ⟨.msw rs 0,[],[(rs,⟨0,false,.os T [] []⟩)],[]⟩else none
 |none=>none
def UG(own tk boxed raw vars:Bool)(o:Oper)(env:Nat->KV)(mem:aH)(rs:Nat)(k:bK->Option R):Option R:=
 match o.op with
 | .move x=>bif own&&l9 x then MI tab o.type rs k else O0 I tab tbl boxed raw vars o env mem rs k
 | .assign x=>bif own&&l9 x then MI tab o.type rs k else O0 I tab tbl boxed raw vars o env mem rs k
 | .buildSlice t len parts=>bif own then LN I tab env rs t len parts k else O0 I tab tbl boxed raw vars o env mem rs k
 | .makeSlice t l c=>bif own then f8 env l λl=>f8 env c λc=>Qz I tab rs t l c k else O0 I tab tbl boxed raw vars o env mem rs k
 | .load t a=>f8 env a λv=>bif H1 mem v then Pa I tab tk t mem v k else O0 I tab tbl boxed raw vars o env mem rs k
 | .store t a x=>f8 env a λv=>bif H1 mem v then f8 env x λx=>Mw I tab t mem v x k else O0 I tab tbl boxed raw vars o env mem rs k
 | .slice t x lo hi mx=>f8 env x λv=>bif Bz mem v then Nm env lo λlo=>Nm env hi λhi=>Nm env mx λmx=>LQ I tab t mem v lo hi mx k else O0 I tab tbl boxed raw vars o env mem rs k
 | .indexAddr t x ix=>f8 env x λv=>bif Bz mem v then f8 env ix λix=>(match ix with| .lit (.int _ i)=>Ls I tab t mem v i k|_=>none)else O0 I tab tbl boxed raw vars o env mem rs k
 | .call c=>
  (match c.callee with
  | .builtin .len=>w8 env c.args.toList λargs=>(match c.argTypes.toList,args with
   | [t],[x]=>bif Q4 mem x then Un tab t mem x k else O0 I tab tbl boxed raw vars o env mem rs k
   |_,_=>O0 I tab tbl boxed raw vars o env mem rs k)
  | .builtin .append=>w8 env c.args.toList λargs=>(match c.argTypes.toList,args with
   | [t,tx],[x,y]=>bif own||Bz mem x then JM I tab own t tx mem rs x y k else O0 I tab tbl boxed raw vars o env mem rs k
   |_,_=>none)
  |_=>O0 I tab tbl boxed raw vars o env mem rs k)
 |_=>O0 I tab tbl boxed raw vars o env mem rs k
def A3(mem:aH):List (Nat×dW)->aH
 | []=>mem
 |(b,x)::r=>A3 (wM (some x) mem b) r
def bK.apply(o:bK)(mem:aH):aH:=A3 mem o.wr++o.push
def MN(mem:aH)(rs:Nat):Bool:=
 match fD mem rs with
 |some none=>true
 |_=>false
def Kp:aH->aH
 | []=> []
 |x::r=>match Kp r with
  | []=>(match x with|none=> []|some b=> [some b])
  |y=>x::y
def Mi:KV->Option (Nat×Nat×Nat×Nat)
 | .ptr b g i c=>some (b,g,i,c)
 |_=>none
def Ea(x:dW):Option (Nat×Nat×List (Option (Nat×Nat×Nat×Nat))):=
 match x.row with
 | .cells e cs=>some (x.gen,e,cs.map Mi)
 |_=>none
def qF(mem:aH)(b:Nat):Option (Nat×Nat×List (Option (Nat×Nat×Nat×Nat))):=
 match fD mem b with
 |some (some x)=>Ea x
 |_=>none
def B8(mem:aH)(wr:List (Nat×dW))(b:Nat):Bool:=wr.all λq=>!(Nat.beq q.1 b)||LY (Ea q.2) (qF mem b)
def Tp(op:Op)(mem:aH)(v:KV)(rd:List Nat):Bool:=
 Ph op&&(match Mi v with|some _=>true|none=>false)&&(match rd with| [b]=>(match qF mem b with|some _=>true|none=>false)|_=>false)
def bK.tr(mk:Bool)(rs:Nat)(o:bK)(i:Nat)(op:Op)(mem:aH):Tr:={i,rc:=Tp op mem o.v o.rd,wk:=B8 mem o.wr,rd:=o.rd,wr:=bif mk then rs::o.wr.map (·.1)else o.wr.map (·.1),push:=match o.push with| []=>false|_=>true}
def QW(h:Option Int)(v:KV)(k:KV->Option R):Option R:=
 match h with
 |none=>k v
 |some x=>match v with
  | .lit (.int kd y)=>I.guard (decide (y=x)) (k (.lit (.int kd x)))
  |_=>none
def Qc(an:o5)(tk:Bool)(rid:Nat)(ds:List (Option Tmp)):List Oper->Nat->Nat->BC->List Tr->(BC->List Tr->Option R)->Option R
 | [],_,_,st,tr,k=>k st tr
 |o::rest,i,rs,st,tr,k=>
  let mk:=eR o.op
  let rs':=bif mk then rs+1 else rs
  let run (env:Nat->KV):Option R:=bif(bif mk then MN st.mem rs else true)then UG I tab tbl (bP rid i an.own) tk (bP rid i an.boxed) (bP rid i an.raw) (bP rid i an.vars) o env st.mem rs λout=>
   QW I (Fh rid i an.hint) out.v λv=>Qc an tk rid ds rest (i+1) rs' ⟨BS env o.dst v,out.apply st.mem⟩ (out.tr mk rs i o.op st.mem::tr) k else none
  let skip (env:Nat->KV):Option R:=Qc an tk rid ds rest (i+1) rs' ⟨BS env o.dst (.lit undef),st.mem⟩ tr k
  match o.guard with
  |none=>run st.env
  |some (j,want)=>
   match fD ds j with
   |some (some d)=>
    (match st.env d with
    | .lit (.bool b)=>
     I.ite b ((λenv=>bif want then run env else skip env) (qC st.env d (.lit (.bool true)))) ((λenv=>bif want then skip env else run env) (qC st.env d (.lit (.bool false))))
    | .lit (.tuple _)=>skip st.env
    |_=>none)
   |_=>none
def rN(an:o5)(rid:Nat)(ops:Array Oper)(draw:Bool)(st:BC)(k:BC->Option R):Option R:=
 let n:=rV ops.toList
 Qc I tab tbl an (!draw) rid (ops.toList.map (·.dst)) ops.toList 0 st.mem.length ⟨st.env,st.mem++List.replicate n none⟩ [] λst' tr=>
  bif !draw||Lt ops (st.mem.length+n) tr then k ⟨st'.env,Kp st'.mem⟩else none
def rI(env:Nat->KV)(c:Operand)(b:Bool):Nat->KV:=
 match c with
 | .tmp d=>qC env d (.lit (.bool b))
 |_=>env
def BA(keep:Bool)(old:List (Option Bool))(live:List Nat)(st:BC)(k:BC->Option R):Option R:=
 w8 st.env (live.map .tmp) λvs=>E1 I keep old vs st.mem λvs' mem'=>k ⟨eK live vs',mem'⟩
def Tq(mem:aH)(off:Nat)(v:KV)(k:KV->Option R):Option R:=
 match v with
 | .ptr b g i c=>qR mem b g λx=>(match x.row with
  | .cells e cs=>(match fD cs (i*e+c+off)with|some v=>k v|none=>none)
  |_=>none)
 |v=>k v
def LX(mem:aH)(s:KV)(n c:Nat)(k:aH->Option R):Option R:=
 match s with
 | .msw b g=>yL mem b g λbx=>(match bx.row with
  | .os T xs hs=>I.getN xs n λx=>(match fD (cellsOf true T x) c with
   |some (.tsl β ag T' ys)=>E6 I true n c (.tsl β ag T' ys) hs mem.length λ_ hs' rows=>k (wM (some ⟨bx.gen,bx.frz,.os T xs hs'⟩) mem b++vF rows)
   |_=>none)
  |_=>none)
 |_=>none
def LJ(mem:aH)(off:Nat)(v:KV)(k:aH->Option R):Option R:=
 match v with
 | .ptr b g i c=>qR mem b g λx=>(match x.row with
  | .cells e cs=>(match fD cs (i*e+c+off)with
   |some (.msw b1 g1)=>qR mem b1 g1 λy=>k (wM (some ⟨x.gen,x.frz,.cells e (wM (.ms b1 g1 0 (gD y.row)) cs (i*e+c+off))⟩) mem b)
   |_=>k mem)
  |_=>none)
 |_=>none
def T7(env:Nat->KV)(mem:aH)(q:Operand×Nat×Operand×Nat)(k:aH->Option R):Option R:=
 f8 env q.1 λp=>bif Nat.beq q.2.2.2 999 then LJ mem q.2.1 p k else Tq mem q.2.1 p λs=>f8 env q.2.2.1 λv=>
  match v with
  | .lit (.int _ n)=>I.guard (decide (0≤n)) (LX I mem s n.toNat q.2.2.2 k)
  |_=>none
def L6(env:Nat->KV):List (Operand×Nat×Operand×Nat)->aH->(aH->Option R)->Option R
 | [],mem,k=>k mem
 |q::r,mem,k=>T7 I env mem q λmem'=>L6 env r mem' k
def F9(an:o5)(rid:Nat)(old:List (Option Bool))(st:BC)(k:BC->Option R):Option R:=
 match dS rid an.tidy with
 |none=>k st
 |some q=>bif eG 0 q.1 then w8 st.env (q.1.map .tmp) λvs=>O8 I old.length vs st.mem λmem=>L6 I (eK q.1 vs) q.2 mem λmem'=>k ⟨eK q.1 vs,mem'⟩else none
variable (loops:Nat->Option aQ)
def mM(an:o5)(old:List (Option Bool)):Code->Nat->BC->(O3->BC->Option R)->Option R
 | .skip,_,st,k=>k .normal st
 | .ret,_,st,k=>k .ret st
 | .exit id,_,st,k=>k (.exit id) st
 | .seq a b,bid,st,k=>mM an old a bid st λe st'=>
  match e with
  | .normal=>mM an old b bid st' k
  | .exit id=>k (.exit id) st'
  | .ret=>k .ret st'
  | .goto l=>k (.goto l) st'
 | .cond c x y,bid,st,k=>f8 st.env c λv=>
  match v with
  | .lit (.bool t)=>I.ite t (mM an old x bid ⟨rI st.env c true,st.mem⟩ k) (mM an old y bid ⟨rI st.env c false,st.mem⟩ k)
  | .unkB=>I.amb (mM an old x bid st k) (mM an old y bid st k)
  |_=>none
 | .block id c,_,st,k=>mM an old c id st λe st'=>
  match e with
  | .normal=>k .normal st'
  | .exit j=>bif Nat.beq j id then k .normal st' else k (.exit j) st'
  | .ret=>k .ret st'
  | .goto l=>k (.goto l) st'
 | .loop c,bid,st,k=>bif Nat.ble 500 bid then none else
  match dS bid an.live with
  |some live=>BA I (eY bid an.keep) old live st λst1=>
   (match loops bid with
   |some L=>(match Ap false L.heads .normal st1 with
    |some s=>I.bind (L.run s) λx=>Cc I L.outs x k
    |none=>I.loop bid st1 k)
   |none=>I.loop bid st1 k)
  |none=>none
 | .region rid ops draw,_,st,k=>F9 I an rid old st λst=>rN I tab tbl an rid ops draw st (λst'=>k .normal st')
 | .goto l,_,st,k=>k (.goto l) st
 | .scope (.seq (.region r1 o1 d1) (.seq (.region r2 o2 d2) (.seq (.label l) b))),_,st,k=>
  F9 I an r1 old st λst=>rN I tab tbl an r1 o1 d1 st λst=>
  F9 I an r2 old st λst=>rN I tab tbl an r2 o2 d2 st λst=>
  match dS (cF l) an.live with
  |some live=>BA I (eY (cF l) an.keep) old live st λst1=>
   (match loops (cF l) with
   |some L=>(match Ap false L.heads .normal st1 with
    |some s=>I.bind (L.run s) λx=>Cc I L.outs x k
    |none=>I.loop (cF l) st1 k)
   |none=>I.loop (cF l) st1 k)
  |none=>none
 |_,_,_,_=>none
def Pq(env:Nat->KV)(mem:aH):List ResultVar->(List KV->Option R)->Option R
 | [],k=>k []
 | .tmp t::r,k=>f8 env (.tmp t) λv=>Pq env mem r λvs=>k (v::vs)
 | .cell a t::r,k=>f8 env (.tmp a) λa=>QN I tab t mem a λo=>Pq env mem r λvs=>k (o.v::vs)
def A2:List KV->KV
 | [v]=>v
 |vs=> .tup vs
def WO(fn:Func)(old:List (Option Bool))(e:O3)(st:BC)(k:KV->aH->Option R):Option R:=
 match e with
 | .exit _=>none
 | .goto _=>none
 |_=>Pq I tab st.env st.mem fn.results.toList λvs=>E1 I true old [A2 vs] st.mem λws mem'=>(match ws with| [v]=>k v mem'|_=>none)
def Lv(args:List KV)(n:Nat):Nat->KV:=λt=>
 match fD args t with
 |some v=>v
 |none=>bif Nat.blt t n then .lit undef else .gone
def UN(an:o5)(fn:Func)(args:List KV)(mem:aH)(k:KV->aH->Option R):Option R:=
 match fn.body with
 |some c=>mM I tab tbl loops an (iD mem) c 0 ⟨Lv args fn.ntmps,mem⟩ λe st=>WO I tab fn (iD mem) e st k
 |none=>none
def US(an:o5)(fn:Func)(a:oU)(r:List oU)(d:a.den)(k:fG r->Option R):Option R:=
 UN I tab tbl loops an fn (eD a.sh (P2.fst a.sh.dflt _ _ d)) (jC a.msh (P2.snd a.msh.dflt _ _ d)) λv mem=>
  match Ap true r .ret ⟨eK [0] [v],mem⟩with
  |some b=>k b
  |none=>none
def gK:Code->Nat->List (Nat×Code)
 | .seq a b,bid=>gK a bid++gK b bid
 | .cond _ x y,bid=>gK x bid++gK y bid
 | .block id c,_=>gK c id
 | .loop c,bid=>(bid,c)::gK c bid
 | .scope (.seq (.region _ _ _) (.seq (.region _ _ _) (.seq (.label l) b))),_=>(cF l,b)::gK b (cF l)
 |_,_=> []
def Fu(an:o5)(old:List (Option Bool))(c:Code)(bid:Nat)(live:List Nat)(heads outs:List oU)(s:fG heads)(k:fG heads⊕fG outs->Option R):Option R:=
 Cc I heads s λ_ st0=>mM I tab tbl loops an old c bid st0 λe st=>
  match e with
  | .normal=>bif Nat.ble 500 bid then none else BA I (eY bid an.keep) old live st λst1=>(match Ap false heads .normal st1 with|some s'=>k (.inl s')|none=>none)
  | .goto l=>bif Nat.beq (cF l) bid then BA I (eY bid an.keep) old live st λst1=>(match Ap false heads .normal st1 with|some s'=>k (.inl s')|none=>none)else none
  | .exit id=>(match Ap false outs (.exit id) st with|some x=>k (.inr x)|none=>none)
  | .ret=>(match Ap false outs .ret st with|some x=>k (.inr x)|none=>none)
end
end
end Go.Ab
