import Derived.Test.YtjjjbgicidhpfaaDoorLib1
set_option linter.unusedVariables false
namespace Go.Ab
noncomputable section
inductive Ty where
 |int (k:IntKind)
 |bool
 |str
 |sl (ag:Bool) (T:Ty)
 |cons (a b:Ty)
def FE:Bool->Bool->Bool
 |true,b=>b
 |false,_=>false
theorem mL(a b:Bool):FE a b=(a&&b):=by cases a<;>rfl
def den(T:Ty):Type:=Ty.rec (λ_=>Int) Bool ByteArray (λ_ _ ih=>List ih) (λ_ _ a b=>a×b) T
def Ty.size(T:Ty):Nat:=Ty.rec (λ_=>1) 1 1 (λ_ _ _=>1) (λ_ _ a b=>a+b) T
def Ty.flat(T:Ty):Bool:=Ty.rec (λ_=>true) true true (λ_ _ _=>false) (λ_ _ a b=>FE a b) T
def dY:Bool->Bool->Bool
 |true,b=>b
 |false,b=>!b
def Ty.beq:Ty->Ty->Bool
 | .int k,.int k'=>fY k k'
 | .bool,.bool=>true
 | .str,.str=>true
 | .sl g T,.sl g' T'=>FE (dY g g') (Ty.beq T T')
 | .cons a b,.cons a' b'=>FE (Ty.beq a a') (Ty.beq b b')
 |_,_=>false
theorem O0{a b:IntKind}(h:fY a b=true):a=b:=by cases a<;>cases b<;>first|rfl|cases h
theorem fJ{a b:Bool}(h:dY a b=true):a=b:=by cases a<;>cases b<;>first|rfl|cases h
theorem Ty.eq_of_beq: ∀{a b:Ty},Ty.beq a b=true->a=b
 | .int _,.int _,h=>by rw[O0 h]
 | .bool,.bool,_=>rfl
 | .str,.str,_=>rfl
 | .sl g T,.sl g' T',h=>by
  simp only[Ty.beq,mL,yb]at h;rw[fJ h.1,Ty.eq_of_beq h.2]
 | .cons a b,.cons a' b',h=>by
  simp only[Ty.beq,mL,yb]at h;rw[Ty.eq_of_beq h.1,Ty.eq_of_beq h.2]
 | .int _,.bool,h| .int _,.str,h| .int _,.sl _ _,h| .int _,.cons _ _,h=>by cases h
 | .bool,.int _,h| .bool,.str,h| .bool,.sl _ _,h| .bool,.cons _ _,h=>by cases h
 | .str,.int _,h| .str,.bool,h| .str,.sl _ _,h| .str,.cons _ _,h=>by cases h
 | .sl _ _,.int _,h| .sl _ _,.bool,h| .sl _ _,.str,h| .sl _ _,.cons _ _,h=>by cases h
 | .cons _ _,.int _,h| .cons _ _,.bool,h| .cons _ _,.str,h| .cons _ _,.sl _ _,h=>by cases h
def Ga{F:Ty->Type}{a b:Ty}(c:Bool)(h:Ty.beq a b=c)(x:F a):Option (F b):=
 match c,h with
 |true,h=>some (Ty.eq_of_beq h ▸ x)
 |false,_=>none
def oN(a b:Ty)(xs:List (den a)):Option (List (den b)):=Ga (F:=λT=>List (den T)) (Ty.beq a b) rfl xs
inductive KV where
 |lit (v:Value)
 |tsl (β ag:Bool) (T:Ty) (xs:List (den T))
 |el (β ag:Bool) (T:Ty) (x:den T) (c:Nat)
 |ptr (b g i c:Nat)
 |ms (b g o n:Nat)
 |msw (b g:Nat)
 |fn (f:Fn) (first cap:List KV)
 |agg (cs:List KV)
 |tup (vs:List KV)
 |dead
 |gone
 |unkB
inductive KRow where
 |ts (β ag:Bool) (T:Ty) (xs:List (den T))
 |cells (e:Nat) (cs:List KV)
 |os (T:Ty) (xs:List (den T)) (hs:List (Nat×Nat×KV))
structure cS where
 gen:Nat
 frz:Bool
 row:KRow
abbrev aE:=List (Option cS)
structure wH where
 env:Nat->KV
 mem:aE
structure a9 where
 v:KV
 rd:List Nat
 wr:List (Nat×cS)
 push:aE
inductive JC where
 |normal|exit (id:Nat)|ret|goto (l:Nat)
def aY:Bool->Ty->Bool
 |false,.int _=>true
 |_,_=>false
structure Pm (R:Type) where
 ite:Bool->Option R->Option R->Option R
 guard:Bool->Option R->Option R
 get:{α:Type}->List α->Int->(α->Option R)->Option R
 getN:{α:Type}->List α->Nat->(α->Option R)->Option R
 bind:{α:Type}->Option α->(α->Option R)->Option R
 sum:{α β:Type}->α⊕β->(α->Option R)->(β->Option R)->Option R
 loop:Nat->wH->(JC->wH->Option R)->Option R
 ask:FuncId->List KV->aE->(KV->aE->Option R)->Option R
 amb:Option R->Option R->Option R
def aQ(R:Type):Pm R:={ite:=λc a b=>cond c a b,guard:=λc a=>cond c a none,get:=λxs i k=>(aV xs i).bind k,getN:=λxs i k=>(xs[i]?).bind k,bind:=λx k=>x.bind k,sum:=λx f g=>Sum.rec f g x,loop:=λ_ _ _=>none,ask:=λ_ _ _ _=>none,amb:=λa b=>Go.Ab.amb a b}
def eE:Ty->Bool
 | .sl _ _=>false
 |_=>true
def gI:KRow->Bool
 | .os _ _ _=>true
 |_=>false
def zY(β ag:Bool)(T:Ty):Bool:=
 match T with
 | .int _=>bif ag then β else false
 |_=>β
def aR(k:IntKind)(a b:Int):Int:=k.wrap (a+b)
def iK(k:IntKind)(a b:Int):Int:=k.wrap (a-b)
def Oz(k:IntKind)(a b:Int):Int:=k.wrap (a*b)
def PF(k:IntKind)(a b:Int):Int:=k.wrap (a.tdiv b)
def dP(a b:Int):Int:=a.tmod b
def Pw(k:IntKind)(a b:Int):Int:=k.wrap (a*2 ^ (min b.toNat k.bits))
def N4(k:IntKind)(a b:Int):Int:=a.fdiv (2 ^ (min b.toNat k.bits))
def Qb(k:IntKind)(a b:Int):Int:=k.wrap (BitVec.ofInt k.bits a &&& BitVec.ofInt k.bits b).toNat
def Qg(k:IntKind)(a b:Int):Int:=k.wrap (BitVec.ofInt k.bits a ||| BitVec.ofInt k.bits b).toNat
def PC(k:IntKind)(a b:Int):Int:=k.wrap (BitVec.ofInt k.bits a ^^^ BitVec.ofInt k.bits b).toNat
def Ox(k:IntKind)(a b:Int):Int:=k.wrap (BitVec.ofInt k.bits a &&& ~~~BitVec.ofInt k.bits b).toNat
def PN(k:IntKind)(n:Int):Int:=k.wrap (BitVec.ofInt k.bits (if k.signed then-1 else k.max) ^^^ BitVec.ofInt k.bits n).toNat
def gF(k:IntKind)(n:Int):Int:=k.wrap n
def P8(a b:ByteArray):Bool:=a.toList==b.toList
def aF{α:Type}(xs:List α):Int:=(xs.length:Int)
def O8(s:ByteArray):Int:=(s.size:Int)
def OV(x y:Int):Int:=bif decide (y<x)then y else x
def Nv(x y:Int):Int:=bif decide (y>x)then y else x
inductive TK where
 |int (k:IntKind)|bool|str|sl (et:TypeId)|st (fs:List (Nat×Nat×TypeId))|ptr|arr (n:Nat) (e:TypeId)|other
structure TI where
 tk:TK
 n:Nat
 bytes:Nat
 ag:Bool
 ty:Option Ty
 eq:Bool
 zero:List Value
section
variable {R:Type} (I:Pm R) (tab:TypeId->Option TI)
def lT(env:Nat->KV)(d:Nat)(v:KV):Nat->KV:=λt=>bif Nat.beq t d then v else env t
def yJ(env:Nat->KV)(dst:Option Tmp)(v:KV):Nat->KV:=
 match dst with
 |some d=>lT env d v
 |none=>env
def Hq:Value->KV
 | .agg cs=> .agg (cs.toList.map .lit)
 |v=> .lit v
def s5:List Value->Bool
 | []=>true
 |v::r=>kI v&&s5 r
def Hy:Value->Bool
 | .agg cs=>s5 cs.toList
 |_=>true
def eB[b3](env:Nat->KV)(x:Operand)(k:KV->Option R):Option R:=
 match x with
 | .tmp t=>(match env t with| .gone=>none|v=>k v)
 | .const v=>bif Hy v then k (Hq v)else none
 | .func f=>k (.fn (.func f) [] [])
 | .global g=>(match b3.tab g with|some q=>k (.el true true (.cons (.int .i64) (.int .i64)) (q.1,q.2) 0)|none=>none)
def qE[b3](env:Nat->KV):List Operand->(List KV->Option R)->Option R
 | [],k=>k []
 |x::r,k=>eB env x λv=>qE env r λvs=>k (v::vs)
def AU[b3](env:Nat->KV):List (Nat×Operand)->(List (Nat×KV)->Option R)->Option R
 | [],k=>k []
 |(i,x)::r,k=>eB env x λv=>AU env r λvs=>k ((i,v)::vs)
def IW[b3](env:Nat->KV):Option Operand->(Option Int->Option R)->Option R
 |none,k=>k none
 |some x,k=>eB env x λv=>
  match v with
  | .lit (.int _ n)=>k (some n)
  |_=>none
def KV.cells:KV->List KV
 | .agg cs=>cs
 |v=> [v]
def NL:KV->Bool
 | .lit v=>v.oneCell'
 | .agg _=>false
 | .tup _=>false
 | .gone=>false
 |_=>true
def qA:List KV->Bool
 | []=>true
 |v::r=>NL v&&qA r
def cellsOf(β:Bool)(T:Ty):den T->List KV:=
 Ty.rec (motive:=λT=>den T->List KV) (λk x=> [.lit (.int k x)]) (λx=> [.lit (.bool x)]) (λx=> [.lit (.string x)])
  (λag T _ xs=> [.tsl β ag T xs]) (λ_ _ iha ihb x=>iha x.1++ihb x.2) T
def mH(mem:aE)(b g:Nat)(k:cS->Option R):Option R:=
 match dW mem b with
 |some (some x)=>bif Nat.beq x.gen g&&!(gI x.row)then k x else none
 |_=>none
def p9(mem:aE)(b g:Nat)(k:cS->Option R):Option R:=
 match dW mem b with
 |some (some x)=>bif Nat.beq x.gen g&&gI x.row then k x else none
 |_=>none
def A4(o n:Nat)(row:KRow)(k:KRow->Option R):Option R:=
 match row with
 | .ts β ag T xs=>I.guard (Nat.ble (o+n) xs.length) (k (.ts β ag T ((xs.drop o).take n)))
 | .cells e cs=>I.guard (Nat.ble ((o+n)*e) cs.length) (k (.cells e ((cs.drop (o*e)).take (n*e))))
 | .os _ _ _=>none
def oA:KRow->Nat
 | .ts _ _ T _=>T.size
 | .cells e _=>e
 | .os T _ _=>T.size
def eD:KRow->Nat
 | .ts _ _ _ xs=>xs.length
 | .cells e cs=>aP e cs.length
 | .os _ xs _=>xs.length
def gY:KRow->Bool
 | .cells _ _=>true
 | .ts _ _ _ _=>false
 | .os _ _ _=>false
def KU:KRow->KRow
 | .os T xs _=> .ts false (eE T) T xs
 |r=>r
def AD:KRow->Bool
 | .os _ _ (_::_)=>false
 |_=>true
def rR(et:TypeId)(k:KRow->Option R):Option R:=
 match tab et with
 |some ti=>(match ti.ty with|some T=>k (.ts false ti.ag T [])|none=>none)
 |none=>none
def Ix(et:TypeId)(mem:aE)(v:KV)(k:KRow->List Nat->Option R):Option R:=
 match v with
 | .tsl β ag T xs=>(match tab et with
  |some te=>(match te.ty with
   |some T'=>bif T'.flat then(bif T.flat then k (.ts false ag T xs) []else none)else k (.ts (zY β ag T) ag T xs) []
   |none=>none)
  |none=>none)
 | .ms b g o n=>mH mem b g λx=>A4 I o n x.row λr=>k r [b]
 | .msw b g=>mH mem b g λx=>k x.row [b]
 | .lit (.string s)=>k (.ts false false (.int .u8) (eO s)) []
 | .lit (.slice none 0 0)=>rR tab et λr=>k r []
 |_=>none
def eF(mem:aE):(T:Ty)->List KV->(den T->Bool->List Nat->Option R)->Option R
 | .int k,cs,K=>(match cs with| [.lit (.int k' x)]=>bif fY k k' then K x false []else none|_=>none)
 | .bool,cs,K=>(match cs with| [.lit (.bool x)]=>K x false []|_=>none)
 | .str,cs,K=>(match cs with| [.lit (.string x)]=>K x false []|_=>none)
 | .sl ag T,cs,K=>(match cs with
  | [.tsl β ag' T' xs]=>bif dY ag ag' then(match oN T' T xs with|some ys=>K ys β []|none=>none)else none
  | [.lit (.slice none 0 0)]=>K [] false []
  | [.msw b g]=>mH mem b g λx=>denRow ag T (eF mem T) b x.row K
  | [.ms b g o n]=>mH mem b g λx=>A4 I o n x.row λr=>denRow ag T (eF mem T) b r K
  |_=>none)
 | .cons a b,cs,K=>eF mem a (cs.take a.size) λx β1 l1=>eF mem b (cs.drop a.size) λy β2 l2=>K (x,y) (β1||β2) (l1++l2)
 where
 denAll (ag:Bool) (T:Ty) (f:List KV->(den T->Bool->List Nat->Option R)->Option R):List (List KV)->(List (den T)->Bool->List Nat->Option R)->Option R
  | [],K=>K [] false []
  |c::r,K=>f c λx β1 l1=>denAll ag T f r λxs β2 l2=>K (x::xs) (β1||β2) (l1++l2)
 denRow (ag:Bool) (T:Ty) (f:List KV->(den T->Bool->List Nat->Option R)->Option R) (b:Nat) (row:KRow) (K:List (den T)->Bool->List Nat->Option R):Option R:=
  match row with
  | .ts β ag' T' xs=>bif dY ag ag' then(match oN T' T xs with|some ys=>K ys (zY β ag T) [b]|none=>none)else none
  | .cells e cs=>bif Nat.beq e T.size then denAll ag T f (chunks e (aP e cs.length) cs) λxs β l=>K xs β (b::l)else none
  | .os _ _ _=>none
def CZ(mem:aE):List KV->Option (Nat×KRow×Option (Nat×Nat))
 | [.msw b g]=>(match dW mem b with
  |some (some x)=>bif Nat.beq x.gen g&&gI x.row&&!x.frz then some (b,x.row,none)else none
  |_=>none)
 | [.ms b g o n]=>(match dW mem b with
  |some (some x)=>bif Nat.beq x.gen g&&gI x.row&&!x.frz then some (b,x.row,some (o,n))else none
  |_=>none)
 |_=>none
def vJ(mem:aE):(T:Ty)->List KV->(den T->Bool->List Nat->Option R)->Option R
 | .int k,cs,K=>eF I mem (.int k) cs K
 | .bool,cs,K=>eF I mem .bool cs K
 | .str,cs,K=>eF I mem .str cs K
 | .sl ag T,cs,K=>(match CZ mem cs with
  |some q=>(match q.2.1 with
   | .os T' xs []=>bif dY ag (eE T')then(match oN T' T xs with
     |some ys=>(match q.2.2 with
      |none=>K ys false [q.1]
      |some p=>I.guard (Nat.beq p.1 0) (I.guard (Nat.ble p.2 ys.length) (K (ys.take p.2) false [q.1])))
     |none=>none)else none
   |_=>none)
  |none=>eF I mem (.sl ag T) cs K)
 | .cons a b,cs,K=>vJ mem a (cs.take a.size) λx β1 l1=>vJ mem b (cs.drop a.size) λy β2 l2=>K (x,y) (β1||β2) (l1++l2)
def Li(mem:aE)(ag:Bool)(T:Ty)(v:KV)(K:den T->Bool->List Nat->Option R):Option R:=bif Nat.beq v.cells.length T.size then vJ I mem T v.cells K else none
def Hk(mem:aE)(ag:Bool)(T:Ty):List KV->(List (den T)->Bool->List Nat->Option R)->Option R
 | [],K=>K [] false []
 |v::r,K=>Li I mem ag T v λx β1 l1=>Hk mem ag T r λxs β2 l2=>K (x::xs) (β1||β2) (l1++l2)
def kW(mem:aE):List Nat->List (Nat×cS)
 | []=> []
 |b::r=>match dW mem b with
  |some (some x)=>bif AD x.row then(b,⟨x.gen,true,KU x.row⟩)::kW mem r else kW mem r
  |_=>kW mem r
def jB:List KV->List KV
 | []=> []
 |v::r=>v.cells++jB r
def oQ(e:Nat):List KV->Bool
 | []=>true
 |v::r=>Nat.beq v.cells.length e&&oQ e r
def gD(β:Bool)(T:Ty):List (den T)->List KV
 | []=> []
 |x::r=>cellsOf β T x++gD β T r
def zP(te:TI):KRow->Option (List KV)
 | .ts β ag T xs=>
  match te.ty with
  |some T'=>bif Ty.beq T' T&&dY te.ag ag then some (gD β T xs)else none
  |none=>none
 | .cells e cs=>some cs
 | .os _ _ _=>none
def fK(v:KV):a9:=⟨v,[],[],[]⟩
def KJ(op:BinOp)(ka:IntKind)(a:Int)(kb:IntKind)(b:Int)(k:Value->Option R):Option R:=
 match op with
 | .shl=>I.guard (decide (0≤b)) (k (.int ka (Pw ka a b)))
 | .shr=>I.guard (decide (0≤b)) (k (.int ka (N4 ka a b)))
 | .add=>bif fY ka kb then k (.int ka (aR ka a b))else none
 | .sub=>bif fY ka kb then k (.int ka (iK ka a b))else none
 | .mul=>bif fY ka kb then k (.int ka (Oz ka a b))else none
 | .quo=>bif fY ka kb then I.guard (!(b==0)) (k (.int ka (PF ka a b)))else none
 | .rem=>bif fY ka kb then I.guard (!(b==0)) (k (.int ka (dP a b)))else none
 | .and=>bif fY ka kb then k (.int ka (Qb ka a b))else none
 | .or=>bif fY ka kb then k (.int ka (Qg ka a b))else none
 | .xor=>bif fY ka kb then k (.int ka (PC ka a b))else none
 | .andNot=>bif fY ka kb then k (.int ka (Ox ka a b))else none
 | .eql=>bif fY ka kb then k (.bool (a==b))else none
 | .neq=>bif fY ka kb then k (.bool (a !=b))else none
 | .lss=>bif fY ka kb then k (.bool (decide (a<b)))else none
 | .leq=>bif fY ka kb then k (.bool (decide (a≤b)))else none
 | .gtr=>bif fY ka kb then k (.bool (decide (a>b)))else none
 | .geq=>bif fY ka kb then k (.bool (decide (a≥b)))else none
def JY(isBool:Bool)(op:BinOp)(x y:Value)(k:Value->Option R):Option R:=
 match x,y with
 | .int ka a,.int kb b=>KJ I op ka a kb b k
 | .bool a,.bool b=>bif isBool then
  match op with
  | .eql=>k (.bool (a==b))
  | .neq=>k (.bool (!(a==b)))
  |_=>none
  else none
 | .string a,.string b=>
  match op with
  | .eql=>k (.bool (P8 a b))
  | .neq=>k (.bool (!(P8 a b)))
  |_=>none
 |_,_=>none
def CC(a b:KV)(k:Bool->Option R):Option R:=
 match a,b with
 | .lit (.int ka a),.lit (.int kb b)=>bif fY ka kb then k (a==b)else none
 | .lit (.bool a),.lit (.bool b)=>k (a==b)
 | .lit (.string a),.lit (.string b)=>k (P8 a b)
 |_,_=>none
def gM(T:Ty)(v:KV):Bool:=
 match T,v with
 | .int k,.lit (.int k' _)=>fY k k'
 | .bool,.lit (.bool _)=>true
 | .str,.lit (.string _)=>true
 | .sl ag T,.tsl _ ag' T' _=>dY ag ag'&&Ty.beq T T'
 |_,_=>false
def cM:Ty->List Ty
 | .cons a b=>cM a++cM b
 |T=> [T]
def aU:List Ty->List KV->Bool
 | [],[]=>true
 |T::Ts,v::vs=>gM T v&&aU Ts vs
 |_,_=>false
def l5:List KV->List KV->(Bool->Option R)->Option R
 | [],[],k=>k true
 | [a],[b],k=>CC a b k
 |a::as,b::bs,k=>CC a b λq=>l5 as bs λr=>k (q&&r)
 |_,_,_=>none
def eqTy?(t:TypeId):Option Ty:=
 match tab t with
 |some ti=>bif ti.eq then ti.ty else none
 |none=>none
def Lr(t:TypeId):Bool:=
 match tab t with
 |some ti=>(match ti.tk with| .bool=>true|_=>false)
 |none=>false
def J7(t:TypeId):Bool:=
 match tab t with
 |some ti=>(match ti.tk with| .ptr=>true|_=>false)
 |none=>false
def KZ(t:TypeId):Bool:=
 match tab t with
 |some ti=>(match ti.tk with| .sl _=>true|_=>false)
 |none=>false
def OU(op:BinOp)(t:TypeId)(x y:KV)(k:KV->Option R):Option R:=
 match x,y with
 | .tsl _ _ _ xs,.lit (.slice none 0 0)=>
  bif KZ tab t then
   match op with
   | .eql=>I.ite xs.isEmpty (k .unkB) (k (.lit (.bool false)))
   | .neq=>I.ite xs.isEmpty (k .unkB) (k (.lit (.bool true)))
   |_=>none
  else none
 | .lit (.slice none 0 0),.lit (.slice none 0 0)=>
  bif KZ tab t then
   match op with
   | .eql=>k (.lit (.bool true))
   | .neq=>k (.lit (.bool false))
   |_=>none
  else none
 | .lit a,.lit b=>JY I (Lr tab t) op a b λv=>k (.lit v)
 | .agg a,.agg b=>
  (match eqTy? tab t with
  |some T=>bif T.flat&&aU (cM T) a&&aU (cM T) b then
    (match op with
    | .eql=>l5 a b λr=>k (.lit (.bool r))
    | .neq=>l5 a b λr=>k (.lit (.bool (!r)))
    |_=>none)else none
  |none=>none)
 | .ptr _ _ _ _,.lit (.pointer none)| .el _ _ _ _ _,.lit (.pointer none)=>
  bif J7 tab t then
   match op with
   | .eql=>k (.lit (.bool false))
   | .neq=>k (.lit (.bool true))
   |_=>none
  else none
 |_,_=>none
def Pz(op:UnOp)(x:KV)(k:KV->Option R):Option R:=
 match x with
 | .lit v=>
  match op,v with
  | .neg,.int kd n=>k (.lit (.int kd (iK kd 0 n)))
  | .xor,.int kd n=>k (.lit (.int kd (PN kd n)))
  | .not,.bool b=>k (.lit (.bool (!b)))
  |_,_=>none
 |_=>none
def zW(y:Nat)(x:Option Int)(d:Nat)(k:Nat->Option R):Option R:=
 match x with
 |none=>k d
 |some i=>I.guard (decide (0≤i)&&decide (i≤(y:Int))) (k i.toNat)
def jT(len:Nat)(lo hi mx:Option Int)(k:Nat->Nat->Option R):Option R:=
 bif mx.isNone||hi.isSome then zW I len mx len λm=>zW I m hi len λh=>zW I h lo 0 λl=>k l h else none
def cL(cs:List KV)(i:Nat):List KV->List KV
 | []=>cs
 |v::r=>cL (pE v cs i) (i+1) r
def OL(t:TypeId)(mem:aE)(x:KV)(k:Int->List Nat->Option R):Option R:=
 match tab t with
 |some ti=>
  match ti.tk with
  | .str=>(match x with| .lit (.string s)=>k (O8 s) []|_=>none)
  | .sl _=>
   match x with
   | .tsl _ _ _ xs=>k (aF xs) []
   | .ms b g o n=>k (n:Int) []
   | .msw b g=>mH mem b g λx=>(match x.row with| .ts _ _ _ xs=>k (aF xs) [b]| .cells e cs=>k (aP e cs.length:Nat) [b]| .os _ _ _=>none)
   | .lit (.slice none 0 0)=>k 0 []
   |_=>none
  |_=>none
 |none=>none
def D0(tx:TypeId)(y:KV):Bool:=
 match tab tx with
 |some ti=>
  match ti.tk,y with
  | .str,.lit (.string _)=>true
  | .sl _,.lit (.string _)=>false
  | .sl _,_=>true
  |_,_=>false
 |none=>false
def CN(te:TI)(x y:KRow)(k:KRow->Option R):Option R:=
 match x with
 | .ts β ag T xs=>
  (match y with
  | .ts β' ag' T' ys=>bif dY ag ag' then(match oN T' T ys with|some zs=>k (.ts (β||β') ag T (xs++zs))|none=>none)else none
  |_=>none)
 | .os _ _ _=>none
 | .cells e xs=>(match zP te y with
  |some ys=>bif qA ys&&Nat.beq e (oA y)&&Nat.ble 1 e then k (.cells e (xs++ys))else none
  |none=>none)
def p6(t:TypeId)(k:TypeId->TI->Option R):Option R:=
 match tab t with
 |some ti=>(match ti.tk with| .sl et=>(match tab et with|some te=>k et te|none=>none)|_=>none)
 |none=>none
def F8(boxed:Bool)(rs:Nat)(row:KRow)(rd:List Nat)(wr:List (Nat×cS))(k:a9->Option R):Option R:=
 bif boxed then(bif gI row then none else k ⟨.msw rs 0,rd,wr++ [(rs,⟨0,false,row⟩)],[]⟩)else
 match row with
 | .ts β ag T xs=>k ⟨.tsl (zY β ag T) ag T xs,rd,wr,[]⟩
 |_=>none
def AR(row:KRow)(k:Option R):Option R:=I.guard (Nat.ble (eD row) bF) k
def Fa:KRow->Bool
 | .ts _ ag T _=>aY ag T
 |_=>false
def NI(o:Nat)(row z:KRow)(k:Option R):Option R:=bif Fa row then I.guard (Nat.beq o 0||Nat.ble 1 (eD z)) k else I.guard (Nat.beq o 0) k
def GM(boxed vars:Bool)(t tx:TypeId)(mem:aE)(rs:Nat)(x y:KV)(k:a9->Option R):Option R:=
 p6 tab t λet te=>Ix I tab et mem y λyr yrd=>
 bif Nat.beq te.n (oA yr)&&D0 tab tx y&&Nat.ble te.bytes 4096&&Nat.ble 1 te.n&&Nat.beq te.zero.length te.n then
  match x with
  | .lit (.slice none 0 0)=>
   AR I yr<|
   bif boxed then
    bif vars then(match zP te yr with
     |some ys=>bif Nat.ble 1 (eD yr)&&qA ys then k ⟨.msw rs 0,yrd,[(rs,⟨0,false,.cells (oA yr) ys⟩)],[]⟩else none
     |none=>none)
    else(match yr with| .ts _ _ _ _=>k ⟨.msw rs 0,yrd,[(rs,⟨0,false,yr⟩)],[]⟩|_=>none)
   else(match yr with| .ts β ag T xs=>k ⟨.tsl (zY β ag T) ag T xs,yrd,[],[]⟩|_=>none)
  | .msw b g=>mH mem b g λbx=>CN te bx.row yr λz=>
   bif !bx.frz&&Nat.beq te.n (oA bx.row)then AR I z (k ⟨.msw b (g+1),b::yrd,[(b,⟨g+1,false,z⟩)],[]⟩)else none
  | .ms b g o n=>mH mem b g λbx=>A4 I o n bx.row λxr=>CN te xr yr λz=>
   bif !bx.frz&&Nat.beq te.n (oA bx.row)then AR I z (NI I o bx.row z (k ⟨.msw b (g+1),b::yrd,[(b,⟨g+1,false,z⟩)],[]⟩))else none
  |_=>none
 else none
def KP(t:TypeId)(mem:aE)(x:KV)(i:Int)(k:a9->Option R):Option R:=
 match tab t with
 |some ti=>
  match ti.tk with
  | .sl et=>
   (match tab et with
   |some te=>
    match x with
    | .tsl β ag T xs=>bif Nat.beq te.n T.size then I.get xs i λv=>k (fK (.el β ag T v 0))else none
    | .ms b g o n=>mH mem b g λbx=>bif Nat.beq te.n (oA bx.row)then I.guard (decide (0≤i)&&decide (i<(n:Int))) (k ⟨.ptr b g (o+i.toNat) 0,[b],[],[]⟩)else none
    | .msw b g=>mH mem b g λbx=>bif Nat.beq te.n (oA bx.row)then I.guard (decide (0≤i)&&decide (i<(eD bx.row:Int))) (k ⟨.ptr b g i.toNat 0,[b],[],[]⟩)else none
    |_=>none
   |none=>none)
  | .arr n e=>
   (match tab e with
   |some te=>
    match x with
    | .ptr b g j c=>I.guard (decide (0≤i)&&decide (i<(n:Int))) (k (fK (.ptr b g j (c+i.toNat*te.n))))
    |_=>none
   |none=>none)
  |_=>none
 |none=>none
def Cu(ti:TI)(cs:List KV)(k:KV->Option R):Option R:=
 match ti.ty with
 |some T=>bif aU (cM T) cs then(bif ti.ag then k (.agg cs)else match cs with| [v]=>k v|_=>none)else none
 |none=>none
def MP(sC:Nat):List KV->Nat->(KV->Option R)->Option R
 | [],_,_=>none
 |v::r,j,k=>I.ite (Nat.beq sC j) (k v) (MP sC r (j+1) k)
def Cr(sC:Nat)(v:KV)(cs:List KV):List KV->Nat->(List KV->Option R)->Option R
 | [],_,_=>none
 |_::r,j,k=>I.ite (Nat.beq sC j) (k (pE v cs j)) (Cr sC v cs r (j+1) k)
def KX(t:TypeId)(mem:aE)(a:KV)(k:a9->Option R):Option R:=
 match tab t with
 |some ti=>
  match a with
  | .el β ag T x c=>Cu ti ((((cellsOf β T x)).drop c).take ti.n) λv=>k (fK v)
  | .ptr b g i c=>mH mem b g λbx=>
   (match bx.row with
   | .cells e cs=>bif ti.ag then bif Nat.ble (i*e+c+ti.n) cs.length then k ⟨.agg ((cs.drop (i*e+c)).take ti.n),[b],[],[]⟩else none
     else MP I (i*e+c) cs 0 λv=>k ⟨v,[b],[],[]⟩
   | .ts β ag T xs=>bif ti.ag&&aY ag T then none else I.getN xs i λx=>Cu ti (((cellsOf β T x).drop c).take ti.n) λv=>k ⟨v,[b],[],[]⟩
   | .os _ _ _=>none)
  |_=>none
 |none=>none
def Kv(t:TypeId)(mem:aE)(a x:KV)(k:a9->Option R):Option R:=
 match tab t with
 |some ti=>
  match a with
  | .ptr b g i c=>mH mem b g λbx=>bif !bx.frz&&Nat.beq x.cells.length ti.n then
   (match bx.row with
   | .cells e cs=>bif Nat.beq ti.n 1 then(match x.cells with
     | [v]=>bif NL v then Cr I (i*e+c) v cs cs 0 λcs'=>k ⟨.lit undef,[b],[(b,⟨bx.gen,bx.frz,.cells e cs'⟩)],[]⟩else none
     |_=>none)
    else bif Nat.ble (i*e+c+ti.n) cs.length&&qA x.cells then k ⟨.lit undef,[b],[(b,⟨bx.gen,bx.frz,.cells e (cL cs (i*e+c) x.cells)⟩)],[]⟩else none
   | .ts β ag T xs=>bif aY ag T then
     (match x with
     | .lit (.int kd v)=>bif Nat.beq c 0&&Nat.beq ti.n 1 then
       (match Ga (F := den) (a := .int kd) (b := T) (Ty.beq (.int kd) T) rfl v with
       |some z=>I.guard (Nat.ble (i+1) xs.length) (k ⟨.lit undef,[b],[(b,⟨bx.gen,bx.frz,.ts β ag T (xs.set i z)⟩)],[]⟩)
       |none=>none)else none
     |_=>none)
    else bif Nat.ble (c+ti.n) T.size then
     (match ti.ty with
     |some T'=>Li I mem ti.ag T' x λy β' l=>bif dL b l then none else
       bif Nat.beq c 0&&Nat.beq ti.n T.size then
        (match (bif dY ti.ag ag then Ga (F := den) (Ty.beq T' T) rfl y else none) with
        |some z=>I.guard (Nat.ble (i+1) xs.length) (k ⟨.lit undef,b::l,kW mem l++ [(b,⟨bx.gen,bx.frz,.ts (β||β') ag T (xs.set i z)⟩)],[]⟩)
        |none=>none)
       else I.getN xs i λp=>eF I mem T (cL (cellsOf false T p) c (cellsOf false T' y)) λz _ _=>
        k ⟨.lit undef,b::l,kW mem l++ [(b,⟨bx.gen,bx.frz,.ts (β||β') ag T (xs.set i z)⟩)],[]⟩
     |none=>none)
    else none
   | .os _ _ _=>none)
   else none
  |_=>none
 |none=>none
def JW(t:TypeId)(mem:aE)(x:KV)(lo hi mx:Option Int)(k:a9->Option R):Option R:=
 match tab t with
 |some ti=>
  match ti.tk with
  | .str=>(match x with| .lit (.string s)=>bif mx.isNone then jT I s.size lo hi none λl h=>k (fK (.lit (.string (s.extract l h))))else none|_=>none)
  | .sl et=>
   (match tab et with
   |some te=>
    match x with
    | .tsl β ag T xs=>bif Nat.beq te.n T.size then jT I xs.length lo hi mx λl h=>k (fK (.tsl β ag T ((xs.take h).drop l)))else none
    | .ms b g o n=>mH mem b g λbx=>bif Nat.beq te.n (oA bx.row)then jT I n lo hi mx λl h=>k ⟨.ms b g (o+l) (h-l),[b],[],[]⟩else none
    | .msw b g=>mH mem b g λbx=>bif Nat.beq te.n (oA bx.row)then jT I (eD bx.row) lo hi mx λl h=>k ⟨.ms b g l (h-l),[b],[],[]⟩else none
    | .lit (.slice none 0 0)=>jT I 0 lo hi mx λ_ _=>k (fK (.lit (.slice none 0 0)))
    |_=>none
   |none=>none)
  | .arr n e=>
   (match tab e with
   |some te=>
    match x with
    | .ptr b g i c=>bif Nat.beq i 0&&Nat.beq te.n 1 then mH mem b g λbx=>
      (match bx.row with
      | .cells e' cs=>bif Nat.beq e' 1&&Nat.ble (c+n) cs.length then jT I n lo hi mx λl h=>k ⟨.ms b g (c+l) (h-l),[b],[],[]⟩else none
      |_=>none)else none
    |_=>none
   |none=>none)
  |_=>none
 |none=>none
def Hx(s:TypeId)(f:Nat)(k:Nat->Nat->TypeId->Option R):Option R:=
 match tab s with
 |some ti=>(match ti.tk with| .st fs=>(match dW fs f with|some q=>bif Nat.ble 1 q.2.1 then k q.1 q.2.1 q.2.2 else none|none=>none)|_=>none)
 |none=>none
def Cc(place:Nat->Option (Nat×Nat))(cs:List KV):List (Nat×KV)->Option (List KV)
 | []=>some cs
 |(i,v)::r=>match place i with
  |some q=>bif Nat.beq v.cells.length q.2&&Nat.ble (q.1+q.2) cs.length then Cc place (cL cs q.1 v.cells) r else none
  |none=>none
def pU(vs:List KV):List (Nat×KV)->List KV
 | []=>vs
 |(i,v)::r=>pU (pE v vs i) r
def rQ(n:Nat):List (Nat×KV)->Bool
 | []=>true
 |(i,_)::r=>Nat.ble (i+1) n&&rQ n r
def d7(ti:TI):KV:=bif ti.ag then .agg (ti.zero.map .lit)else match ti.zero with| [v]=> .lit v|_=> .gone
def rY(f:Int->Int->Int)(kd:IntKind):List KV->Int->Option Int
 | [],a=>some a
 | .lit (.int k' b)::r,a=>bif fY kd k' then rY f kd r (f a b)else none
 |_,_=>none
mutual
def KV.refs:KV->List Nat
 | .ptr b _ _ _=> [b]
 | .ms b _ _ _=> [b]
 | .msw b _=> [b]
 | .fn _ fi ca=>KV.refsAll fi++KV.refsAll ca
 | .agg cs=>KV.refsAll cs
 | .tup vs=>KV.refsAll vs
 | .lit _=> []
 | .tsl _ _ _ _=> []
 | .el _ _ _ _ _=> []
 | .dead=> []
 | .gone=> []
 | .unkB=> []
def KV.refsAll:List KV->List Nat
 | []=> []
 |v::r=>v.refs++KV.refsAll r
end
def vC:List (Nat×Nat×KV)->List Nat
 | []=> []
 |(_,_,v)::r=>v.refs++vC r
def KRow.refs:KRow->List Nat
 | .cells _ cs=>KV.refsAll cs
 | .ts _ _ _ _=> []
 | .os _ _ hs=>vC hs
def Hv(mem:aE)(b:Nat):List Nat:=
 match dW mem b with
 |some (some x)=>x.row.refs
 |_=> []
def rF(mem:aE):Nat->List Nat->List Nat->List Nat
 |0,_,seen=>seen
 |_,[],seen=>seen
 |n+1,b::todo,seen=>bif dL b seen then rF mem n todo seen else rF mem n (todo++Hv mem b) (seen++ [b])
def r7(mem:aE)(b:Nat):Option Nat:=
 match dW mem b with
 |some (some x)=>some x.gen
 |_=>none
mutual
def KV.ren(f:i7):KV->KV
 | .ptr b g i c=>match f b g with|some q=> .ptr q.1 q.2 i c|none=> .dead
 | .ms b g o n=>match f b g with|some q=> .ms q.1 q.2 o n|none=> .dead
 | .msw b g=>match f b g with|some q=> .msw q.1 q.2|none=> .dead
 | .fn h fi ca=> .fn h (KV.renAll f fi) (KV.renAll f ca)
 | .agg cs=> .agg (KV.renAll f cs)
 | .tup vs=> .tup (KV.renAll f vs)
 | .lit v=> .lit v
 | .tsl β ag T xs=> .tsl β ag T xs
 | .el β ag T x c=> .el β ag T x c
 | .dead=> .dead
 | .gone=> .gone
 | .unkB=> .unkB
def KV.renAll(f:i7):List KV->List KV
 | []=> []
 |v::r=>v.ren f::KV.renAll f r
end
def zH(f:i7):List (Nat×Nat×KV)->List (Nat×Nat×KV)
 | []=> []
 |(i,c,v)::r=>(i,c,v.ren f)::zH f r
def KRow.ren(f:i7):KRow->KRow
 | .cells e cs=> .cells e (KV.renAll f cs)
 | .ts β ag T xs=> .ts β ag T xs
 | .os T xs hs=> .os T xs (zH f hs)
def CS(mem:aE)(b:Nat):Bool:=
 match dW mem b with
 |some (some x)=>gY x.row
 |_=>false
def lP(m:Nat)(keep:Bool)(mem:aE)(ids:List Nat):i7:=λb g=>
 match r7 mem b with
 |some h=>bif Nat.beq h g then(match sC b ids 0 with|some j=>some (j,eY m keep (CS mem b) j h)|none=>none)else none
 |none=>none
def oM(m:Nat)(keep:Bool)(f:i7)(mem:aE):Nat->List Nat->aE
 |_,[]=> []
 |j,b::r=>(match dW mem b with
  |some (some x)=>some ⟨eY m keep (gY x.row) j x.gen,x.frz,x.row.ren f⟩
  |_=>none)::oM m keep f mem (j+1) r
def jM(mem:aE)(n:Nat):Nat:=(mem.length+1)*(mem.length+1)+n
def eV:aE->List (Option Bool)
 | []=> []
 |some x::r=>some (gY x.row)::eV r
 |none::r=>none::eV r
def CL:List (Option Bool)->aE->Bool
 | [],_=>true
 |some k::r,some x::m=>(bif k then gY x.row&&Nat.beq x.gen 0 else !(gY x.row))&&CL r m
 |none::r,none::m=>CL r m
 |_,_=>false
def gL:aE->List Nat
 | []=> []
 |some x::r=>x.row.refs++gL r
 |none::r=>gL r
def M4:KV->Option (Nat×Nat)
 | .msw b g=>some (b,g)
 | .ms b g _ _=>some (b,g)
 |_=>none
def I5(m:Nat)(refs:List Nat)(mem:aE)(v:KV):Bool:=
 match M4 v with
 |some q=>Nat.ble m q.1&&Nat.beq (cB q.1 refs) 1&&(match dW mem q.1 with
  |some (some x)=>Nat.beq x.gen q.2&&!x.frz&&(match x.row with| .ts β ag T _=>!(zY β ag T)|_=>false)
  |_=>false)
 |none=>false
def kJ(c:Nat):List (Nat×Nat×KV)->Option (Nat×KV)
 | []=>none
 |(i,c',v)::r=>bif Nat.beq c c' then some (i,v)else kJ c r
def IG{α:Type}:Option α->Bool
 |none=>true
 |some _=>false
def p4(m:Nat)(refs:List Nat)(mem:aE)(all:List (Nat×Nat×KV)):List (Nat×Nat×KV)->Nat->Option Nat
 | [],_=>none
 |(_,c,v)::r,k=>bif I5 m refs mem v&&IG (kJ c (cD all k))then some k else p4 m refs mem all r (k+1)
def oO(m:Nat)(refs:List Nat)(mem:aE):aE->Nat->Option (Nat×Nat)
 | [],_=>none
 |none::r,b=>oO m refs mem r (b+1)
 |some x::r,b=>match x.row with
  | .os _ _ hs=>(match p4 m refs mem hs hs 0 with
   |some k=>some (b,k)
   |none=>oO m refs mem r (b+1))
  |_=>oO m refs mem r (b+1)
def C5(mem:aE)(v:KV)(k:Nat->KRow->Option R):Option R:=
 match v with
 | .msw b g=>mH mem b g λx=>bif x.frz then none else k b x.row
 | .ms b g o n=>I.guard (Nat.beq o 0) (mH mem b g λx=>bif x.frz then none else
   (match x.row with
   | .ts β ag T xs=>I.guard (Nat.ble n xs.length) (k b (.ts β ag T (xs.take n)))
   |_=>none))
 |_=>none
def A9(mem:aE)(b j:Nat)(k:aE->Option R):Option R:=
 match dW mem b with
 |some (some x)=>(match x.row with
  | .os T xs hs=>(match dW hs j with
   |some h=>C5 I mem h.2.2 λb' row=>(match row with
    | .ts β ag' T' ys=>bif !(zY β ag' T')&&!(Nat.beq b' b)&&IG (kJ h.2.1 (cD hs j))then
      I.getN xs h.1 λp=>(match dW (cellsOf false T p) h.2.1 with
       |some (.tsl _ ag'' T'' _)=>bif dY ag'' ag'&&Ty.beq T'' T' then
         eF I mem T (cL (cellsOf false T p) h.2.1 [.tsl false ag' T' ys]) λz _ _=>k (pE none (pE (some ⟨x.gen,x.frz,.os T (xs.set h.1 z) (cD hs j)⟩) mem b) b')else none
       |_=>none)
     else none
    |_=>none)
   |none=>none)
  |_=>none)
 |_=>none
def Ai(m:Nat)(vs:List KV):Nat->aE->(aE->Option R)->Option R
 |0,mem,k=>k mem
 |n+1,mem,k=>match oO m (KV.refsAll vs++gL mem) mem mem 0 with
  |none=>k mem
  |some q=>A9 I mem q.1 q.2 λmem'=>Ai m vs n mem' k
def Hr(mem:aE)(b:Nat):Bool:=
 match dW mem b with
 |some (some _)=>true
 |_=>false
def CA(m:Nat)(vs:List KV):Nat->aE->aE
 |0,mem=>mem
 |b+1,mem=>CA m vs b (bif Nat.ble m b&&Hr mem b&&Nat.beq (cB b (KV.refsAll vs++gL mem)) 0 then pE none mem b else mem)
def JT(m:Nat)(vs:List KV)(mem:aE)(k:aE->Option R):Option R:=Ai I m vs 64 (CA m vs mem.length mem) k
def AF(keep:Bool)(old:List (Option Bool))(vs:List KV)(mem0:aE)(k:List KV->aE->Option R):Option R:=
 JT I old.length vs mem0 λmem=>
 let ids:=rF mem (jM mem (old.length+(KV.refsAll vs).length)) (nS 0 old.length++KV.refsAll vs) []
 bif CL old mem&&dB ids&&sS 0 old.length ids then k (KV.renAll (lP old.length keep mem ids) vs) (oM old.length keep (lP old.length keep mem ids) mem 0 ids)else none
def KV.frz(m:Nat)(mem:aE):KV->KV
 | .msw b g=>bif Nat.ble m b then
   (match dW mem b with
   |some (some x)=>bif Nat.beq x.gen g then(match x.row with
    | .ts β ag T xs=> .tsl (zY β ag T) ag T xs
    |_=> .msw b g)else .msw b g
   |_=> .msw b g)
  else .msw b g
 |v=>v
def KV.frzAll(m:Nat)(mem:aE):List KV->List KV
 | []=> []
 |v::r=>v.frz m mem::KV.frzAll m mem r
def t5(m:Nat)(mem:aE):KV->KV
 | .tup vs=> .tup (KV.frzAll m mem vs)
 | .agg vs=> .agg (KV.frzAll m mem vs)
 |v=>v.frz m mem
mutual
def KV.lent:KV->Bool
 | .tsl β _ _ _=>β
 | .el β _ _ _ _=>β
 | .fn _ fi ca=>KV.lentAny fi||KV.lentAny ca
 | .agg cs=>KV.lentAny cs
 | .tup vs=>KV.lentAny vs
 | .lit _=>false
 | .ptr _ _ _ _=>false
 | .ms _ _ _ _=>false
 | .msw _ _=>false
 | .dead=>false
 | .gone=>true
 | .unkB=>true
def KV.lentAny:List KV->Bool
 | []=>false
 |v::r=>v.lent||KV.lentAny r
end
def vE:List (Nat×Nat×KV)->Bool
 | []=>false
 |(_,_,v)::r=>v.lent||vE r
def rN:aE->Bool
 | []=>false
 |some x::r=>(match x.row with| .cells _ cs=>KV.lentAny cs| .ts β ag T _=>zY β ag T| .os _ _ hs=>vE hs)||rN r
 |none::r=>rN r
def AZ(mem:aE)(b:Nat):Bool:=
 match dW mem b with
 |some (some x)=>gI x.row
 |_=>false
def wC(mem:aE):KV->Bool
 | .msw b _=>AZ mem b
 | .ms b _ _ _=>AZ mem b
 |_=>false
def Lb(mem:aE):KV->Bool
 | .msw b _=>AZ mem b
 |_=>false
def Dj(mem:aE):KV->Bool
 | .ptr b _ _ _=>AZ mem b
 |_=>false
def Dg(c:Nat):List (Nat×Nat×KV)->List (Nat×Nat×KV)
 | []=> []
 |(i,c',v)::r=>bif Nat.beq c c' then r else(i,c',v)::Dg c r
abbrev cK:=List (Nat×Nat×KV)
def AE(tk:Bool)(i c:Nat)(v:KV)(hs:cK)(nb:Nat)(k:KV->cK->List KRow->Option R):Option R:=
 match kJ c hs with
 |some h=>I.guard (Nat.beq i h.1) (k h.2 hs [])
 |none=>match v with
  | .lit u=>k (.lit u) hs []
  | .tsl _ ag T ys=>bif tk then k (.msw nb 0) ((i,c,.msw nb 0)::hs) [.ts false ag T ys]else none
  |_=>none
def Cw(tk:Bool)(i:Nat):List KV->Nat->cK->Nat->(List KV->cK->List KRow->Option R)->Option R
 | [],_,hs,_,k=>k [] hs []
 |v::vs,c,hs,nb,k=>AE I tk i c v hs nb λa hs1 rows=>Cw tk i vs (c+1) hs1 (nb+rows.length) λas hs2 rows2=>k (a::as) hs2 (rows++rows2)
def oB:List KRow->aE
 | []=> []
 |r::rs=>some ⟨0,false,r⟩::oB rs
def JG(b:Nat)(bx:cS)(T:Ty)(xs:List (den T))(v:KV)(hs:cK):List KRow->a9
 | []=>⟨v,[b],[],[]⟩
 |r::rs=>⟨v,[b],[(b,⟨bx.gen,bx.frz,.os T xs hs⟩)],oB (r::rs)⟩
def KA(tk:Bool)(t:TypeId)(mem:aE)(a:KV)(k:a9->Option R):Option R:=
 match tab t with
 |some ti=>(match a with
  | .ptr b g i c=>p9 mem b g λbx=>(match bx.row with
   | .os T xs hs=>(match ti.ty with
    |some T'=>I.getN xs i λx=>bif aU (cM T') (((cellsOf true T x).drop c).take ti.n)then
      Cw I tk i (((cellsOf true T x).drop c).take ti.n) c hs mem.length λvs hs' rows=>
       bif ti.ag then k (JG b bx T xs (.agg vs) hs' rows)else(match vs with| [v]=>k (JG b bx T xs v hs' rows)|_=>none)
     else none
    |none=>none)
   |_=>none)
  |_=>none)
 |none=>none
def D5(i c:Nat)(hs:cK)(k:cK->Option R):Option R:=
 match kJ c hs with
 |none=>k hs
 |some h=>bif IG (kJ c (Dg c hs))then I.guard (Nat.beq i h.1) (k (Dg c hs))else none
def Hn(t:TypeId)(mem:aE)(a x:KV)(k:a9->Option R):Option R:=
 match tab t with
 |some ti=>(match a with
  | .ptr b g i c=>p9 mem b g λbx=>(match bx.row with
   | .os T xs hs=>bif Nat.beq ti.n 1&&!bx.frz&&NL x then I.getN xs i λp=>(match dW (cellsOf false T p) c with
     |some (.lit u)=>(match x with
      | .lit v=>bif CF u v&&IG (kJ c hs)then eF I mem T (cL (cellsOf false T p) c [.lit v]) λz _ _=>k ⟨.lit undef,[b],[(b,⟨bx.gen,bx.frz,.os T (xs.set i z) hs⟩)],[]⟩else none
      |_=>none)
     |some (.tsl _ ag' T' _)=>(match x with
      | .lit (.slice none 0 0)=>D5 I i c hs λhs'=>eF I mem T (cL (cellsOf false T p) c [.tsl false ag' T' []]) λz _ _=>k ⟨.lit undef,[b],[(b,⟨bx.gen,bx.frz,.os T (xs.set i z) hs'⟩)],[]⟩
      | .msw b2 g2=>D5 I i c hs λhs'=>k ⟨.lit undef,[b],[(b,⟨bx.gen,bx.frz,.os T xs ((i,c,.msw b2 g2)::hs')⟩)],[]⟩
      | .ms b2 g2 o2 n2=>D5 I i c hs λhs'=>k ⟨.lit undef,[b],[(b,⟨bx.gen,bx.frz,.os T xs ((i,c,.ms b2 g2 o2 n2)::hs')⟩)],[]⟩
      |_=>none)
     |_=>none)else none
   |_=>none)
  |_=>none)
 |none=>none
def MT(t:TypeId)(mem:aE)(x:KV)(k:a9->Option R):Option R:=
 match tab t with
 |some ti=>(match ti.tk,x with
  | .sl _,.msw b g=>p9 mem b g λbx=>(match bx.row with
   | .os _ xs _=>k ⟨.lit (.int .i64 (aF xs)),[b],[],[]⟩
   |_=>none)
  |_,_=>none)
 |none=>none
def Hu(t:TypeId)(mem:aE)(x:KV)(i:Int)(k:a9->Option R):Option R:=
 p6 tab t λet te=>
  match x with
  | .ms b g o n=>p9 mem b g λbx=>bif Nat.beq te.n (oA bx.row)then I.guard (decide (0≤i)&&decide (i<(n:Int))) (k ⟨.ptr b g (o+i.toNat) 0,[b],[],[]⟩)else none
  | .msw b g=>p9 mem b g λbx=>bif Nat.beq te.n (oA bx.row)then I.guard (decide (0≤i)&&decide (i<(eD bx.row:Int))) (k ⟨.ptr b g i.toNat 0,[b],[],[]⟩)else none
  |_=>none
def Hi(t:TypeId)(mem:aE)(x:KV)(lo hi mx:Option Int)(k:a9->Option R):Option R:=
 p6 tab t λet te=>
  match x with
  | .ms b g o n=>p9 mem b g λbx=>bif Nat.beq te.n (oA bx.row)then jT I n lo hi mx λl h=>k ⟨.ms b g (o+l) (h-l),[b],[],[]⟩else none
  | .msw b g=>p9 mem b g λbx=>bif Nat.beq te.n (oA bx.row)then jT I (eD bx.row) lo hi mx λl h=>k ⟨.ms b g l (h-l),[b],[],[]⟩else none
  |_=>none
def Kn(T:Ty)(v:KV)(j c:Nat):Option (KV×cK):=
 match T,v with
 | .int k,.lit (.int k' x)=>bif fY k k' then some (.lit (.int k' x),[])else none
 | .bool,.lit (.bool b)=>some (.lit (.bool b),[])
 | .str,.lit (.string s)=>some (.lit (.string s),[])
 | .sl ag T,.lit (.slice none 0 0)=>some (.tsl false ag T [],[])
 | .sl ag T,.msw b g=>some (.tsl false ag T [],[(j,c,.msw b g)])
 | .sl ag T,.ms b g o n=>some (.tsl false ag T [],[(j,c,.ms b g o n)])
 |_,_=>none
def NK:List Ty->List KV->Nat->Nat->Option (List KV×cK)
 | [],[],_,_=>some ([],[])
 |T::Ts,v::vs,j,c=>(match Kn T v j c with
  |some a=>(match NK Ts vs j (c+1)with
   |some q=>some (a.1::q.1,a.2++q.2)
   |none=>none)
  |none=>none)
 |_,_,_,_=>none
def E8(T:Ty):List (List KV)->Nat->(List (den T)->cK->Option R)->Option R
 | [],_,k=>k [] []
 |cs::r,j,k=>(match NK (cM T) cs j 0 with
  |some a=>eF I [] T a.1 λx _ _=>E8 T r (j+1) λxs hs=>k (x::xs) (a.2++hs)
  |none=>none)
def rD(n:Nat):cK->Option R->Option R
 | [],k=>k
 |h::r,k=>I.guard (Nat.blt h.1 n) (rD n r k)
def D4(own:Bool)(t tx:TypeId)(mem:aE)(rs:Nat)(x y:KV)(k:a9->Option R):Option R:=
 p6 tab t λet te=>Ix I tab et mem y λyr yrd=>
 match yr with
 | .cells e cs=>(match te.ty with
  |some T=>bif Nat.beq te.n e&&D0 tab tx y&&Nat.ble te.bytes 4096&&Nat.ble 1 te.n&&Nat.beq te.zero.length te.n&&qA cs&&dY te.ag (eE T)then
   (match x with
   | .lit (.slice none 0 0)=>bif own then E8 I T (chunks te.n (aP te.n cs.length) cs) 0 λzs hs=>
     I.guard (Nat.ble 1 zs.length&&Nat.ble zs.length bF) (k ⟨.msw rs 0,yrd,[(rs,⟨0,false,.os T zs hs⟩)],[]⟩)else none
   | .msw b g=>p9 mem b g λbx=>(match bx.row with
    | .os T' xs hs=>E8 I T (chunks te.n (aP te.n cs.length) cs) xs.length λzs hs'=>(match oN T T' zs with
     |some ys=>bif !bx.frz&&Ty.beq T T' then rD I xs.length hs (I.guard (Nat.ble (xs++ys).length bF) (k ⟨.msw b (g+1),b::yrd,[(b,⟨g+1,false,.os T' (xs++ys) (hs++hs')⟩)],[]⟩))else none
     |none=>none)
    |_=>none)
   | .ms b g o n=>I.guard (Nat.beq o 0) (p9 mem b g λbx=>(match bx.row with
    | .os T' xs hs=>E8 I T (chunks te.n (aP te.n cs.length) cs) n λzs hs'=>(match oN T T' zs with
     |some ys=>bif !bx.frz&&Ty.beq T T' then I.guard (Nat.ble n xs.length) (rD I n hs (I.guard (Nat.ble (xs.take n++ys).length bF) (k ⟨.msw b (g+1),b::yrd,[(b,⟨g+1,false,.os T' (xs.take n++ys) (hs++hs')⟩)],[]⟩)))else none
     |none=>none)
    |_=>none))
   |_=>none)
   else none
  |none=>none)
 |_=>none
end
end
end Go.Ab
