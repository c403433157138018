import Derived.Test.YtjjjbgicidhpfaaDoorLib1
set_option linter.unusedVariables false
namespace Go.Ab
noncomputable section
inductive Ty where
 |int (k:IntKind)
 |bool
 |str
 |sl (ag:Bool) (T:Ty)
 |cons (a b:Ty)
def Id:Bool->Bool->Bool
 |true,b=>b
 |false,_=>false
theorem pA(a b:Bool):Id a b=(a&&b):=by cases a<;>rfl
def den(T:Ty):Type:=Ty.rec (λ_=>Int) Bool ByteArray (λ_ _ ih=>List ih) (λ_ _ a b=>a×b) T
def Ty.size(T:Ty):Nat:=Ty.rec (λ_=>1) 1 1 (λ_ _ _=>1) (λ_ _ a b=>a+b) T
def Ty.flat(T:Ty):Bool:=Ty.rec (λ_=>true) true true (λ_ _ _=>false) (λ_ _ a b=>Id a b) T
def eP:Bool->Bool->Bool
 |true,b=>b
 |false,b=>!b
def Ty.beq:Ty->Ty->Bool
 | .int k,.int k'=>iK k k'
 | .bool,.bool=>true
 | .str,.str=>true
 | .sl g T,.sl g' T'=>Id (eP g g') (Ty.beq T T')
 | .cons a b,.cons a' b'=>Id (Ty.beq a a') (Ty.beq b b')
 |_,_=>false
theorem Ud{a b:IntKind}(h:iK a b=true):a=b:=by cases a<;>cases b<;>first|rfl|cases h
theorem gM{a b:Bool}(h:eP a b=true):a=b:=by cases a<;>cases b<;>first|rfl|cases h
theorem Ty.eq_of_beq: ∀{a b:Ty},Ty.beq a b=true->a=b
 | .int _,.int _,h=>by rw[Ud h]
 | .bool,.bool,_=>rfl
 | .str,.str,_=>rfl
 | .sl g T,.sl g' T',h=>by
  simp only[Ty.beq,pA,yc]at h;rw[gM h.1,Ty.eq_of_beq h.2]
 | .cons a b,.cons a' b',h=>by
  simp only[Ty.beq,pA,yc]at h;rw[Ty.eq_of_beq h.1,Ty.eq_of_beq h.2]
 | .int _,.bool,h| .int _,.str,h| .int _,.sl _ _,h| .int _,.cons _ _,h=>by cases h
 | .bool,.int _,h| .bool,.str,h| .bool,.sl _ _,h| .bool,.cons _ _,h=>by cases h
 | .str,.int _,h| .str,.bool,h| .str,.sl _ _,h| .str,.cons _ _,h=>by cases h
 | .sl _ _,.int _,h| .sl _ _,.bool,h| .sl _ _,.str,h| .sl _ _,.cons _ _,h=>by cases h
 | .cons _ _,.int _,h| .cons _ _,.bool,h| .cons _ _,.str,h| .cons _ _,.sl _ _,h=>by cases h
def IL{F:Ty->Type}{a b:Ty}(c:Bool)(h:Ty.beq a b=c)(x:F a):Option (F b):=
 match c,h with
 |true,h=>some (Ty.eq_of_beq h ▸ x)
 |false,_=>none
def q9(a b:Ty)(xs:List (den a)):Option (List (den b)):=IL (F:=λT=>List (den T)) (Ty.beq a b) rfl xs
inductive KV where
 |lit (v:Value)
 |tsl (β ag:Bool) (T:Ty) (xs:List (den T))
 |el (β ag:Bool) (T:Ty) (x:den T) (c:Nat)
 |ptr (b g i c:Nat)
 |ms (b g o n:Nat)
 |msw (b g:Nat)
 |fn (f:Fn) (first cap:List KV)
 |agg (cs:List KV)
 |tup (vs:List KV)
 |dead
 |gone
 |unkB
inductive KRow where
 |ts (β ag:Bool) (T:Ty) (xs:List (den T))
 |cells (e:Nat) (cs:List KV)
 |os (T:Ty) (xs:List (den T)) (hs:List (Nat×Nat×KV))
structure dE where
 gen:Nat
 frz:Bool
 row:KRow
abbrev aF:=List (Option dE)
structure zX where
 env:Nat->KV
 mem:aF
structure bC where
 v:KV
 rd:List Nat
 wr:List (Nat×dE)
 push:aF
inductive MX where
 |normal|exit (id:Nat)|ret|goto (l:Nat)
def a6:Bool->Ty->Bool
 |false,.int _=>true
 |_,_=>false
structure UU (R:Type) where
 ite:Bool->Option R->Option R->Option R
 guard:Bool->Option R->Option R
 get:{α:Type}->List α->Int->(α->Option R)->Option R
 getN:{α:Type}->List α->Nat->(α->Option R)->Option R
 bind:{α:Type}->Option α->(α->Option R)->Option R
 sum:{α β:Type}->α⊕β->(α->Option R)->(β->Option R)->Option R
 loop:Nat->zX->(MX->zX->Option R)->Option R
 ask:FuncId->List KV->aF->(KV->aF->Option R)->Option R
 amb:Option R->Option R->Option R
def aS(R:Type):UU R:={ite:=λc a b=>cond c a b,guard:=λc a=>cond c a none,get:=λxs i k=>(aM xs i).bind k,getN:=λxs i k=>(xs[i]?).bind k,bind:=λx k=>x.bind k,sum:=λx f g=>Sum.rec f g x,loop:=λ_ _ _=>none,ask:=λ_ _ _ _=>none,amb:=λa b=>Go.Ab.amb a b}
def fB:Ty->Bool
 | .sl _ _=>false
 |_=>true
def iX:KRow->Bool
 | .os _ _ _=>true
 |_=>false
def Bu(β ag:Bool)(T:Ty):Bool:=
 match T with
 | .int _=>bif ag then β else false
 |_=>β
def aX(k:IntKind)(a b:Int):Int:=k.wrap (a+b)
def bO(k:IntKind)(a b:Int):Int:=k.wrap (a-b)
def QU(k:IntKind)(a b:Int):Int:=k.wrap (a*b)
def T0(k:IntKind)(a b:Int):Int:=k.wrap (a.tdiv b)
def S8(a b:Int):Int:=a.tmod b
def Vo(k:IntKind)(a b:Int):Int:=k.wrap (a*2 ^ (min b.toNat k.bits))
def Qk(k:IntKind)(a b:Int):Int:=a.fdiv (2 ^ (min b.toNat k.bits))
def Vb(k:IntKind)(a b:Int):Int:=k.wrap (BitVec.ofInt k.bits a &&& BitVec.ofInt k.bits b).toNat
def UM(k:IntKind)(a b:Int):Int:=k.wrap (BitVec.ofInt k.bits a ||| BitVec.ofInt k.bits b).toNat
def Vq(k:IntKind)(a b:Int):Int:=k.wrap (BitVec.ofInt k.bits a ^^^ BitVec.ofInt k.bits b).toNat
def Tz(k:IntKind)(a b:Int):Int:=k.wrap (BitVec.ofInt k.bits a &&& ~~~BitVec.ofInt k.bits b).toNat
def Vn(k:IntKind)(n:Int):Int:=k.wrap (BitVec.ofInt k.bits (if k.signed then-1 else k.max) ^^^ BitVec.ofInt k.bits n).toNat
def jT(k:IntKind)(n:Int):Int:=k.wrap n
def Ve(a b:ByteArray):Bool:=a.toList==b.toList
def aC{α:Type}(xs:List α):Int:=(xs.length:Int)
def K5(s:ByteArray):Int:=(s.size:Int)
def TH(x y:Int):Int:=bif decide (y<x)then y else x
def L6(x y:Int):Int:=bif decide (y>x)then y else x
inductive TK where
 |int (k:IntKind)|bool|str|sl (et:TypeId)|st (fs:List (Nat×Nat×TypeId))|ptr|arr (n:Nat) (e:TypeId)|other
structure TI where
 tk:TK
 n:Nat
 bytes:Nat
 ag:Bool
 ty:Option Ty
 eq:Bool
 zero:List Value
section
variable {R:Type} (I:UU R) (tab:TypeId->Option TI)
def n8(env:Nat->KV)(d:Nat)(v:KV):Nat->KV:=λt=>bif Nat.beq t d then v else env t
def AI(env:Nat->KV)(dst:Option Tmp)(v:KV):Nat->KV:=
 match dst with
 |some d=>n8 env d v
 |none=>env
def Jq:Value->KV
 | .agg cs=> .agg (cs.toList.map .lit)
 |v=> .lit v
def zI:List Value->Bool
 | []=>true
 |v::r=>mW v&&zI r
def Ks:Value->Bool
 | .agg cs=>zI cs.toList
 |_=>true
def eZ[cF](env:Nat->KV)(x:Operand)(k:KV->Option R):Option R:=
 match x with
 | .tmp t=>(match env t with| .gone=>none|v=>k v)
 | .const v=>bif Ks v then k (Jq v)else none
 | .func f=>k (.fn (.func f) [] [])
 | .global g=>(match cF.tab g with|some q=>k (.el true true (.cons (.int .i64) (.int .i64)) (q.1,q.2) 0)|none=>none)
def vC[cF](env:Nat->KV):List Operand->(List KV->Option R)->Option R
 | [],k=>k []
 |x::r,k=>eZ env x λv=>vC env r λvs=>k (v::vs)
def CK[cF](env:Nat->KV):List (Nat×Operand)->(List (Nat×KV)->Option R)->Option R
 | [],k=>k []
 |(i,x)::r,k=>eZ env x λv=>CK env r λvs=>k ((i,v)::vs)
def LC[cF](env:Nat->KV):Option Operand->(Option Int->Option R)->Option R
 |none,k=>k none
 |some x,k=>eZ env x λv=>
  match v with
  | .lit (.int _ n)=>k (some n)
  |_=>none
def KV.cells:KV->List KV
 | .agg cs=>cs
 |v=> [v]
def RV:KV->Bool
 | .lit v=>v.oneCell'
 | .agg _=>false
 | .tup _=>false
 | .gone=>false
 |_=>true
def vE:List KV->Bool
 | []=>true
 |v::r=>RV v&&vE r
def cellsOf(β:Bool)(T:Ty):den T->List KV:=
 Ty.rec (motive:=λT=>den T->List KV) (λk x=> [.lit (.int k x)]) (λx=> [.lit (.bool x)]) (λx=> [.lit (.string x)])
  (λag T _ xs=> [.tsl β ag T xs]) (λ_ _ iha ihb x=>iha x.1++ihb x.2) T
def oX(mem:aF)(b g:Nat)(k:dE->Option R):Option R:=
 match eO mem b with
 |some (some x)=>bif Nat.beq x.gen g&&!(iX x.row)then k x else none
 |_=>none
def vB(mem:aF)(b g:Nat)(k:dE->Option R):Option R:=
 match eO mem b with
 |some (some x)=>bif Nat.beq x.gen g&&iX x.row then k x else none
 |_=>none
def CP(o n:Nat)(row:KRow)(k:KRow->Option R):Option R:=
 match row with
 | .ts β ag T xs=>I.guard (Nat.ble (o+n) xs.length) (k (.ts β ag T ((xs.drop o).take n)))
 | .cells e cs=>I.guard (Nat.ble ((o+n)*e) cs.length) (k (.cells e ((cs.drop (o*e)).take (n*e))))
 | .os _ _ _=>none
def qX:KRow->Nat
 | .ts _ _ T _=>T.size
 | .cells e _=>e
 | .os T _ _=>T.size
def fD:KRow->Nat
 | .ts _ _ _ xs=>xs.length
 | .cells e cs=>aR e cs.length
 | .os _ xs _=>xs.length
def jQ:KRow->Bool
 | .cells _ _=>true
 | .ts _ _ _ _=>false
 | .os _ _ _=>false
def OU:KRow->KRow
 | .os T xs _=> .ts false (fB T) T xs
 |r=>r
def CU:KRow->Bool
 | .os _ _ (_::_)=>false
 |_=>true
def wB(et:TypeId)(k:KRow->Option R):Option R:=
 match tab et with
 |some ti=>(match ti.ty with|some T=>k (.ts false ti.ag T [])|none=>none)
 |none=>none
def Mc(et:TypeId)(mem:aF)(v:KV)(k:KRow->List Nat->Option R):Option R:=
 match v with
 | .tsl β ag T xs=>(match tab et with
  |some te=>(match te.ty with
   |some T'=>bif T'.flat then(bif T.flat then k (.ts false ag T xs) []else none)else k (.ts (Bu β ag T) ag T xs) []
   |none=>none)
  |none=>none)
 | .ms b g o n=>oX mem b g λx=>CP I o n x.row λr=>k r [b]
 | .msw b g=>oX mem b g λx=>k x.row [b]
 | .lit (.string s)=>k (.ts false false (.int .u8) (dZ s)) []
 | .lit (.slice none 0 0)=>wB tab et λr=>k r []
 |_=>none
def fE(mem:aF):(T:Ty)->List KV->(den T->Bool->List Nat->Option R)->Option R
 | .int k,cs,K=>(match cs with| [.lit (.int k' x)]=>bif iK k k' then K x false []else none|_=>none)
 | .bool,cs,K=>(match cs with| [.lit (.bool x)]=>K x false []|_=>none)
 | .str,cs,K=>(match cs with| [.lit (.string x)]=>K x false []|_=>none)
 | .sl ag T,cs,K=>(match cs with
  | [.tsl β ag' T' xs]=>bif eP ag ag' then(match q9 T' T xs with|some ys=>K ys β []|none=>none)else none
  | [.lit (.slice none 0 0)]=>K [] false []
  | [.msw b g]=>oX mem b g λx=>denRow ag T (fE mem T) b x.row K
  | [.ms b g o n]=>oX mem b g λx=>CP I o n x.row λr=>denRow ag T (fE mem T) b r K
  |_=>none)
 | .cons a b,cs,K=>fE mem a (cs.take a.size) λx β1 l1=>fE mem b (cs.drop a.size) λy β2 l2=>K (x,y) (β1||β2) (l1++l2)
 where
 denAll (ag:Bool) (T:Ty) (f:List KV->(den T->Bool->List Nat->Option R)->Option R):List (List KV)->(List (den T)->Bool->List Nat->Option R)->Option R
  | [],K=>K [] false []
  |c::r,K=>f c λx β1 l1=>denAll ag T f r λxs β2 l2=>K (x::xs) (β1||β2) (l1++l2)
 denRow (ag:Bool) (T:Ty) (f:List KV->(den T->Bool->List Nat->Option R)->Option R) (b:Nat) (row:KRow) (K:List (den T)->Bool->List Nat->Option R):Option R:=
  match row with
  | .ts β ag' T' xs=>bif eP ag ag' then(match q9 T' T xs with|some ys=>K ys (Bu β ag T) [b]|none=>none)else none
  | .cells e cs=>bif Nat.beq e T.size then denAll ag T f (chunks e (aR e cs.length) cs) λxs β l=>K xs β (b::l)else none
  | .os _ _ _=>none
def HK(mem:aF):List KV->Option (Nat×KRow×Option (Nat×Nat))
 | [.msw b g]=>(match eO mem b with
  |some (some x)=>bif Nat.beq x.gen g&&iX x.row&&!x.frz then some (b,x.row,none)else none
  |_=>none)
 | [.ms b g o n]=>(match eO mem b with
  |some (some x)=>bif Nat.beq x.gen g&&iX x.row&&!x.frz then some (b,x.row,some (o,n))else none
  |_=>none)
 |_=>none
def zW(mem:aF):(T:Ty)->List KV->(den T->Bool->List Nat->Option R)->Option R
 | .int k,cs,K=>fE I mem (.int k) cs K
 | .bool,cs,K=>fE I mem .bool cs K
 | .str,cs,K=>fE I mem .str cs K
 | .sl ag T,cs,K=>(match HK mem cs with
  |some q=>(match q.2.1 with
   | .os T' xs []=>bif eP ag (fB T')then(match q9 T' T xs with
     |some ys=>(match q.2.2 with
      |none=>K ys false [q.1]
      |some p=>I.guard (Nat.beq p.1 0) (I.guard (Nat.ble p.2 ys.length) (K (ys.take p.2) false [q.1])))
     |none=>none)else none
   |_=>none)
  |none=>fE I mem (.sl ag T) cs K)
 | .cons a b,cs,K=>zW mem a (cs.take a.size) λx β1 l1=>zW mem b (cs.drop a.size) λy β2 l2=>K (x,y) (β1||β2) (l1++l2)
def Pm(mem:aF)(ag:Bool)(T:Ty)(v:KV)(K:den T->Bool->List Nat->Option R):Option R:=bif Nat.beq v.cells.length T.size then zW I mem T v.cells K else none
def JU(mem:aF)(ag:Bool)(T:Ty):List KV->(List (den T)->Bool->List Nat->Option R)->Option R
 | [],K=>K [] false []
 |v::r,K=>Pm I mem ag T v λx β1 l1=>JU mem ag T r λxs β2 l2=>K (x::xs) (β1||β2) (l1++l2)
def nP(mem:aF):List Nat->List (Nat×dE)
 | []=> []
 |b::r=>match eO mem b with
  |some (some x)=>bif CU x.row then(b,⟨x.gen,true,OU x.row⟩)::nP mem r else nP mem r
  |_=>nP mem r
def lV:List KV->List KV
 | []=> []
 |v::r=>v.cells++lV r
def qR(e:Nat):List KV->Bool
 | []=>true
 |v::r=>Nat.beq v.cells.length e&&qR e r
def iN(β:Bool)(T:Ty):List (den T)->List KV
 | []=> []
 |x::r=>cellsOf β T x++iN β T r
def BV(te:TI):KRow->Option (List KV)
 | .ts β ag T xs=>
  match te.ty with
  |some T'=>bif Ty.beq T' T&&eP te.ag ag then some (iN β T xs)else none
  |none=>none
 | .cells e cs=>some cs
 | .os _ _ _=>none
def gV(v:KV):bC:=⟨v,[],[],[]⟩
def Ni(op:BinOp)(ka:IntKind)(a:Int)(kb:IntKind)(b:Int)(k:Value->Option R):Option R:=
 match op with
 | .shl=>I.guard (decide (0≤b)) (k (.int ka (Vo ka a b)))
 | .shr=>I.guard (decide (0≤b)) (k (.int ka (Qk ka a b)))
 | .add=>bif iK ka kb then k (.int ka (aX ka a b))else none
 | .sub=>bif iK ka kb then k (.int ka (bO ka a b))else none
 | .mul=>bif iK ka kb then k (.int ka (QU ka a b))else none
 | .quo=>bif iK ka kb then I.guard (!(b==0)) (k (.int ka (T0 ka a b)))else none
 | .rem=>bif iK ka kb then I.guard (!(b==0)) (k (.int ka (S8 a b)))else none
 | .and=>bif iK ka kb then k (.int ka (Vb ka a b))else none
 | .or=>bif iK ka kb then k (.int ka (UM ka a b))else none
 | .xor=>bif iK ka kb then k (.int ka (Vq ka a b))else none
 | .andNot=>bif iK ka kb then k (.int ka (Tz ka a b))else none
 | .eql=>bif iK ka kb then k (.bool (a==b))else none
 | .neq=>bif iK ka kb then k (.bool (a !=b))else none
 | .lss=>bif iK ka kb then k (.bool (decide (a<b)))else none
 | .leq=>bif iK ka kb then k (.bool (decide (a≤b)))else none
 | .gtr=>bif iK ka kb then k (.bool (decide (a>b)))else none
 | .geq=>bif iK ka kb then k (.bool (decide (a≥b)))else none
def Ob(isBool:Bool)(op:BinOp)(x y:Value)(k:Value->Option R):Option R:=
 match x,y with
 | .int ka a,.int kb b=>Ni I op ka a kb b k
 | .bool a,.bool b=>bif isBool then
  match op with
  | .eql=>k (.bool (a==b))
  | .neq=>k (.bool (!(a==b)))
  |_=>none
  else none
 | .string a,.string b=>
  match op with
  | .eql=>k (.bool (Ve a b))
  | .neq=>k (.bool (!(Ve a b)))
  |_=>none
 |_,_=>none
def FN(a b:KV)(k:Bool->Option R):Option R:=
 match a,b with
 | .lit (.int ka a),.lit (.int kb b)=>bif iK ka kb then k (a==b)else none
 | .lit (.bool a),.lit (.bool b)=>k (a==b)
 | .lit (.string a),.lit (.string b)=>k (Ve a b)
 |_,_=>none
def jK(T:Ty)(v:KV):Bool:=
 match T,v with
 | .int k,.lit (.int k' _)=>iK k k'
 | .bool,.lit (.bool _)=>true
 | .str,.lit (.string _)=>true
 | .sl ag T,.tsl _ ag' T' _=>eP ag ag'&&Ty.beq T T'
 |_,_=>false
def c8:Ty->List Ty
 | .cons a b=>c8 a++c8 b
 |T=> [T]
def aV:List Ty->List KV->Bool
 | [],[]=>true
 |T::Ts,v::vs=>jK T v&&aV Ts vs
 |_,_=>false
def oO:List KV->List KV->(Bool->Option R)->Option R
 | [],[],k=>k true
 | [a],[b],k=>FN a b k
 |a::as,b::bs,k=>FN a b λq=>oO as bs λr=>k (q&&r)
 |_,_,_=>none
def eqTy?(t:TypeId):Option Ty:=
 match tab t with
 |some ti=>bif ti.eq then ti.ty else none
 |none=>none
def OJ(t:TypeId):Bool:=
 match tab t with
 |some ti=>(match ti.tk with| .bool=>true|_=>false)
 |none=>false
def Oc(t:TypeId):Bool:=
 match tab t with
 |some ti=>(match ti.tk with| .ptr=>true|_=>false)
 |none=>false
def Py(t:TypeId):Bool:=
 match tab t with
 |some ti=>(match ti.tk with| .sl _=>true|_=>false)
 |none=>false
def Uw(op:BinOp)(t:TypeId)(x y:KV)(k:KV->Option R):Option R:=
 match x,y with
 | .tsl _ _ _ xs,.lit (.slice none 0 0)=>
  bif Py tab t then
   match op with
   | .eql=>I.ite xs.isEmpty (k .unkB) (k (.lit (.bool false)))
   | .neq=>I.ite xs.isEmpty (k .unkB) (k (.lit (.bool true)))
   |_=>none
  else none
 | .lit (.slice none 0 0),.lit (.slice none 0 0)=>
  bif Py tab t then
   match op with
   | .eql=>k (.lit (.bool true))
   | .neq=>k (.lit (.bool false))
   |_=>none
  else none
 | .lit a,.lit b=>Ob I (OJ tab t) op a b λv=>k (.lit v)
 | .agg a,.agg b=>
  (match eqTy? tab t with
  |some T=>bif T.flat&&aV (c8 T) a&&aV (c8 T) b then
    (match op with
    | .eql=>oO a b λr=>k (.lit (.bool r))
    | .neq=>oO a b λr=>k (.lit (.bool (!r)))
    |_=>none)else none
  |none=>none)
 | .ptr _ _ _ _,.lit (.pointer none)| .el _ _ _ _ _,.lit (.pointer none)=>
  bif Oc tab t then
   match op with
   | .eql=>k (.lit (.bool false))
   | .neq=>k (.lit (.bool true))
   |_=>none
  else none
 |_,_=>none
def Vh(op:UnOp)(x:KV)(k:KV->Option R):Option R:=
 match x with
 | .lit v=>
  match op,v with
  | .neg,.int kd n=>k (.lit (.int kd (bO kd 0 n)))
  | .xor,.int kd n=>k (.lit (.int kd (Vn kd n)))
  | .not,.bool b=>k (.lit (.bool (!b)))
  |_,_=>none
 |_=>none
def Bf(y:Nat)(x:Option Int)(d:Nat)(k:Nat->Option R):Option R:=
 match x with
 |none=>k d
 |some i=>I.guard (decide (0≤i)&&decide (i≤(y:Int))) (k i.toNat)
def mA(len:Nat)(lo hi mx:Option Int)(k:Nat->Nat->Option R):Option R:=
 bif mx.isNone||hi.isSome then Bf I len mx len λm=>Bf I m hi len λh=>Bf I h lo 0 λl=>k l h else none
def c6(cs:List KV)(i:Nat):List KV->List KV
 | []=>cs
 |v::r=>c6 (s6 v cs i) (i+1) r
def Up(t:TypeId)(mem:aF)(x:KV)(k:Int->List Nat->Option R):Option R:=
 match tab t with
 |some ti=>
  match ti.tk with
  | .str=>(match x with| .lit (.string s)=>k (K5 s) []|_=>none)
  | .sl _=>
   match x with
   | .tsl _ _ _ xs=>k (aC xs) []
   | .ms b g o n=>k (n:Int) []
   | .msw b g=>oX mem b g λx=>(match x.row with| .ts _ _ _ xs=>k (aC xs) [b]| .cells e cs=>k (aR e cs.length:Nat) [b]| .os _ _ _=>none)
   | .lit (.slice none 0 0)=>k 0 []
   |_=>none
  |_=>none
 |none=>none
def Gu(tx:TypeId)(y:KV):Bool:=
 match tab tx with
 |some ti=>
  match ti.tk,y with
  | .str,.lit (.string _)=>true
  | .sl _,.lit (.string _)=>false
  | .sl _,_=>true
  |_,_=>false
 |none=>false
def GC(te:TI)(x y:KRow)(k:KRow->Option R):Option R:=
 match x with
 | .ts β ag T xs=>
  (match y with
  | .ts β' ag' T' ys=>bif eP ag ag' then(match q9 T' T ys with|some zs=>k (.ts (β||β') ag T (xs++zs))|none=>none)else none
  |_=>none)
 | .os _ _ _=>none
 | .cells e xs=>(match BV te y with
  |some ys=>bif vE ys&&Nat.beq e (qX y)&&Nat.ble 1 e then k (.cells e (xs++ys))else none
  |none=>none)
def vG(t:TypeId)(k:TypeId->TI->Option R):Option R:=
 match tab t with
 |some ti=>(match ti.tk with| .sl et=>(match tab et with|some te=>k et te|none=>none)|_=>none)
 |none=>none
def IW(boxed:Bool)(rs:Nat)(row:KRow)(rd:List Nat)(wr:List (Nat×dE))(k:bC->Option R):Option R:=
 bif boxed then(bif iX row then none else k ⟨.msw rs 0,rd,wr++ [(rs,⟨0,false,row⟩)],[]⟩)else
 match row with
 | .ts β ag T xs=>k ⟨.tsl (Bu β ag T) ag T xs,rd,wr,[]⟩
 |_=>none
def C5(row:KRow)(k:Option R):Option R:=I.guard (Nat.ble (fD row) bJ) k
def Gt:KRow->Bool
 | .ts _ ag T _=>a6 ag T
 |_=>false
def Rg(o:Nat)(row z:KRow)(k:Option R):Option R:=bif Gt row then I.guard (Nat.beq o 0||Nat.ble 1 (fD z)) k else I.guard (Nat.beq o 0) k
def JV(boxed vars:Bool)(t tx:TypeId)(mem:aF)(rs:Nat)(x y:KV)(k:bC->Option R):Option R:=
 vG tab t λet te=>Mc I tab et mem y λyr yrd=>
 bif Nat.beq te.n (qX yr)&&Gu tab tx y&&Nat.ble te.bytes 4096&&Nat.ble 1 te.n&&Nat.beq te.zero.length te.n then
  match x with
  | .lit (.slice none 0 0)=>
   C5 I yr<|
   bif boxed then
    bif vars then(match BV te yr with
     |some ys=>bif Nat.ble 1 (fD yr)&&vE ys then k ⟨.msw rs 0,yrd,[(rs,⟨0,false,.cells (qX yr) ys⟩)],[]⟩else none
     |none=>none)
    else(match yr with| .ts _ _ _ _=>k ⟨.msw rs 0,yrd,[(rs,⟨0,false,yr⟩)],[]⟩|_=>none)
   else(match yr with| .ts β ag T xs=>k ⟨.tsl (Bu β ag T) ag T xs,yrd,[],[]⟩|_=>none)
  | .msw b g=>oX mem b g λbx=>GC te bx.row yr λz=>
   bif !bx.frz&&Nat.beq te.n (qX bx.row)then C5 I z (k ⟨.msw b (g+1),b::yrd,[(b,⟨g+1,false,z⟩)],[]⟩)else none
  | .ms b g o n=>oX mem b g λbx=>CP I o n bx.row λxr=>GC te xr yr λz=>
   bif !bx.frz&&Nat.beq te.n (qX bx.row)then C5 I z (Rg I o bx.row z (k ⟨.msw b (g+1),b::yrd,[(b,⟨g+1,false,z⟩)],[]⟩))else none
  |_=>none
 else none
def M9(t:TypeId)(mem:aF)(x:KV)(i:Int)(k:bC->Option R):Option R:=
 match tab t with
 |some ti=>
  match ti.tk with
  | .sl et=>
   (match tab et with
   |some te=>
    match x with
    | .tsl β ag T xs=>bif Nat.beq te.n T.size then I.get xs i λv=>k (gV (.el β ag T v 0))else none
    | .ms b g o n=>oX mem b g λbx=>bif Nat.beq te.n (qX bx.row)then I.guard (decide (0≤i)&&decide (i<(n:Int))) (k ⟨.ptr b g (o+i.toNat) 0,[b],[],[]⟩)else none
    | .msw b g=>oX mem b g λbx=>bif Nat.beq te.n (qX bx.row)then I.guard (decide (0≤i)&&decide (i<(fD bx.row:Int))) (k ⟨.ptr b g i.toNat 0,[b],[],[]⟩)else none
    |_=>none
   |none=>none)
  | .arr n e=>
   (match tab e with
   |some te=>
    match x with
    | .ptr b g j c=>I.guard (decide (0≤i)&&decide (i<(n:Int))) (k (gV (.ptr b g j (c+i.toNat*te.n))))
    |_=>none
   |none=>none)
  |_=>none
 |none=>none
def FC(ti:TI)(cs:List KV)(k:KV->Option R):Option R:=
 match ti.ty with
 |some T=>bif aV (c8 T) cs then(bif ti.ag then k (.agg cs)else match cs with| [v]=>k v|_=>none)else none
 |none=>none
def Sb(w7:Nat):List KV->Nat->(KV->Option R)->Option R
 | [],_,_=>none
 |v::r,j,k=>I.ite (Nat.beq w7 j) (k v) (Sb w7 r (j+1) k)
def FL(w7:Nat)(v:KV)(cs:List KV):List KV->Nat->(List KV->Option R)->Option R
 | [],_,_=>none
 |_::r,j,k=>I.ite (Nat.beq w7 j) (k (s6 v cs j)) (FL w7 v cs r (j+1) k)
def OT(t:TypeId)(mem:aF)(a:KV)(k:bC->Option R):Option R:=
 match tab t with
 |some ti=>
  match a with
  | .el β ag T x c=>FC ti ((((cellsOf β T x)).drop c).take ti.n) λv=>k (gV v)
  | .ptr b g i c=>oX mem b g λbx=>
   (match bx.row with
   | .cells e cs=>bif ti.ag then bif Nat.ble (i*e+c+ti.n) cs.length then k ⟨.agg ((cs.drop (i*e+c)).take ti.n),[b],[],[]⟩else none
     else Sb I (i*e+c) cs 0 λv=>k ⟨v,[b],[],[]⟩
   | .ts β ag T xs=>bif ti.ag&&a6 ag T then none else I.getN xs i λx=>FC ti (((cellsOf β T x).drop c).take ti.n) λv=>k ⟨v,[b],[],[]⟩
   | .os _ _ _=>none)
  |_=>none
 |none=>none
def NH(t:TypeId)(mem:aF)(a x:KV)(k:bC->Option R):Option R:=
 match tab t with
 |some ti=>
  match a with
  | .ptr b g i c=>oX mem b g λbx=>bif !bx.frz&&Nat.beq x.cells.length ti.n then
   (match bx.row with
   | .cells e cs=>bif Nat.beq ti.n 1 then(match x.cells with
     | [v]=>bif RV v then FL I (i*e+c) v cs cs 0 λcs'=>k ⟨.lit undef,[b],[(b,⟨bx.gen,bx.frz,.cells e cs'⟩)],[]⟩else none
     |_=>none)
    else bif Nat.ble (i*e+c+ti.n) cs.length&&vE x.cells then k ⟨.lit undef,[b],[(b,⟨bx.gen,bx.frz,.cells e (c6 cs (i*e+c) x.cells)⟩)],[]⟩else none
   | .ts β ag T xs=>bif a6 ag T then
     (match x with
     | .lit (.int kd v)=>bif Nat.beq c 0&&Nat.beq ti.n 1 then
       (match IL (F := den) (a := .int kd) (b := T) (Ty.beq (.int kd) T) rfl v with
       |some z=>I.guard (Nat.ble (i+1) xs.length) (k ⟨.lit undef,[b],[(b,⟨bx.gen,bx.frz,.ts β ag T (xs.set i z)⟩)],[]⟩)
       |none=>none)else none
     |_=>none)
    else bif Nat.ble (c+ti.n) T.size then
     (match ti.ty with
     |some T'=>Pm I mem ti.ag T' x λy β' l=>bif eC b l then none else
       bif Nat.beq c 0&&Nat.beq ti.n T.size then
        (match (bif eP ti.ag ag then IL (F := den) (Ty.beq T' T) rfl y else none) with
        |some z=>I.guard (Nat.ble (i+1) xs.length) (k ⟨.lit undef,b::l,nP mem l++ [(b,⟨bx.gen,bx.frz,.ts (β||β') ag T (xs.set i z)⟩)],[]⟩)
        |none=>none)
       else I.getN xs i λp=>fE I mem T (c6 (cellsOf false T p) c (cellsOf false T' y)) λz _ _=>
        k ⟨.lit undef,b::l,nP mem l++ [(b,⟨bx.gen,bx.frz,.ts (β||β') ag T (xs.set i z)⟩)],[]⟩
     |none=>none)
    else none
   | .os _ _ _=>none)
   else none
  |_=>none
 |none=>none
def Nd(t:TypeId)(mem:aF)(x:KV)(lo hi mx:Option Int)(k:bC->Option R):Option R:=
 match tab t with
 |some ti=>
  match ti.tk with
  | .str=>(match x with| .lit (.string s)=>bif mx.isNone then mA I s.size lo hi none λl h=>k (gV (.lit (.string (s.extract l h))))else none|_=>none)
  | .sl et=>
   (match tab et with
   |some te=>
    match x with
    | .tsl β ag T xs=>bif Nat.beq te.n T.size then mA I xs.length lo hi mx λl h=>k (gV (.tsl β ag T ((xs.take h).drop l)))else none
    | .ms b g o n=>oX mem b g λbx=>bif Nat.beq te.n (qX bx.row)then mA I n lo hi mx λl h=>k ⟨.ms b g (o+l) (h-l),[b],[],[]⟩else none
    | .msw b g=>oX mem b g λbx=>bif Nat.beq te.n (qX bx.row)then mA I (fD bx.row) lo hi mx λl h=>k ⟨.ms b g l (h-l),[b],[],[]⟩else none
    | .lit (.slice none 0 0)=>mA I 0 lo hi mx λ_ _=>k (gV (.lit (.slice none 0 0)))
    |_=>none
   |none=>none)
  | .arr n e=>
   (match tab e with
   |some te=>
    match x with
    | .ptr b g i c=>bif Nat.beq i 0&&Nat.beq te.n 1 then oX mem b g λbx=>
      (match bx.row with
      | .cells e' cs=>bif Nat.beq e' 1&&Nat.ble (c+n) cs.length then mA I n lo hi mx λl h=>k ⟨.ms b g (c+l) (h-l),[b],[],[]⟩else none
      |_=>none)else none
    |_=>none
   |none=>none)
  |_=>none
 |none=>none
def JM(s:TypeId)(f:Nat)(k:Nat->Nat->TypeId->Option R):Option R:=
 match tab s with
 |some ti=>(match ti.tk with| .st fs=>(match eO fs f with|some q=>bif Nat.ble 1 q.2.1 then k q.1 q.2.1 q.2.2 else none|none=>none)|_=>none)
 |none=>none
def Ef(place:Nat->Option (Nat×Nat))(cs:List KV):List (Nat×KV)->Option (List KV)
 | []=>some cs
 |(i,v)::r=>match place i with
  |some q=>bif Nat.beq v.cells.length q.2&&Nat.ble (q.1+q.2) cs.length then Ef place (c6 cs q.1 v.cells) r else none
  |none=>none
def s7(vs:List KV):List (Nat×KV)->List KV
 | []=>vs
 |(i,v)::r=>s7 (s6 v vs i) r
def vU(n:Nat):List (Nat×KV)->Bool
 | []=>true
 |(i,_)::r=>Nat.ble (i+1) n&&vU n r
def e8(ti:TI):KV:=bif ti.ag then .agg (ti.zero.map .lit)else match ti.zero with| [v]=> .lit v|_=> .gone
def vS(f:Int->Int->Int)(kd:IntKind):List KV->Int->Option Int
 | [],a=>some a
 | .lit (.int k' b)::r,a=>bif iK kd k' then vS f kd r (f a b)else none
 |_,_=>none
mutual
def KV.refs:KV->List Nat
 | .ptr b _ _ _=> [b]
 | .ms b _ _ _=> [b]
 | .msw b _=> [b]
 | .fn _ fi ca=>KV.refsAll fi++KV.refsAll ca
 | .agg cs=>KV.refsAll cs
 | .tup vs=>KV.refsAll vs
 | .lit _=> []
 | .tsl _ _ _ _=> []
 | .el _ _ _ _ _=> []
 | .dead=> []
 | .gone=> []
 | .unkB=> []
def KV.refsAll:List KV->List Nat
 | []=> []
 |v::r=>v.refs++KV.refsAll r
end
def zH:List (Nat×Nat×KV)->List Nat
 | []=> []
 |(_,_,v)::r=>v.refs++zH r
def KRow.refs:KRow->List Nat
 | .cells _ cs=>KV.refsAll cs
 | .ts _ _ _ _=> []
 | .os _ _ hs=>zH hs
def Kr(mem:aF)(b:Nat):List Nat:=
 match eO mem b with
 |some (some x)=>x.row.refs
 |_=> []
def yI(mem:aF):Nat->List Nat->List Nat->List Nat
 |0,_,seen=>seen
 |_,[],seen=>seen
 |n+1,b::todo,seen=>bif eC b seen then yI mem n todo seen else yI mem n (todo++Kr mem b) (seen++ [b])
def wX(mem:aF)(b:Nat):Option Nat:=
 match eO mem b with
 |some (some x)=>some x.gen
 |_=>none
mutual
def KV.ren(f:kY):KV->KV
 | .ptr b g i c=>match f b g with|some q=> .ptr q.1 q.2 i c|none=> .dead
 | .ms b g o n=>match f b g with|some q=> .ms q.1 q.2 o n|none=> .dead
 | .msw b g=>match f b g with|some q=> .msw q.1 q.2|none=> .dead
 | .fn h fi ca=> .fn h (KV.renAll f fi) (KV.renAll f ca)
 | .agg cs=> .agg (KV.renAll f cs)
 | .tup vs=> .tup (KV.renAll f vs)
 | .lit v=> .lit v
 | .tsl β ag T xs=> .tsl β ag T xs
 | .el β ag T x c=> .el β ag T x c
 | .dead=> .dead
 | .gone=> .gone
 | .unkB=> .unkB
def KV.renAll(f:kY):List KV->List KV
 | []=> []
 |v::r=>v.ren f::KV.renAll f r
end
def Bi(f:kY):List (Nat×Nat×KV)->List (Nat×Nat×KV)
 | []=> []
 |(i,c,v)::r=>(i,c,v.ren f)::Bi f r
def KRow.ren(f:kY):KRow->KRow
 | .cells e cs=> .cells e (KV.renAll f cs)
 | .ts β ag T xs=> .ts β ag T xs
 | .os T xs hs=> .os T xs (Bi f hs)
def Gy(mem:aF)(b:Nat):Bool:=
 match eO mem b with
 |some (some x)=>jQ x.row
 |_=>false
def oB(m:Nat)(keep:Bool)(mem:aF)(ids:List Nat):kY:=λb g=>
 match wX mem b with
 |some h=>bif Nat.beq h g then(match w7 b ids 0 with|some j=>some (j,gA m keep (Gy mem b) j h)|none=>none)else none
 |none=>none
def qT(m:Nat)(keep:Bool)(f:kY)(mem:aF):Nat->List Nat->aF
 |_,[]=> []
 |j,b::r=>(match eO mem b with
  |some (some x)=>some ⟨gA m keep (jQ x.row) j x.gen,x.frz,x.row.ren f⟩
  |_=>none)::qT m keep f mem (j+1) r
def lA(mem:aF)(n:Nat):Nat:=(mem.length+1)*(mem.length+1)+n
def f8:aF->List (Option Bool)
 | []=> []
 |some x::r=>some (jQ x.row)::f8 r
 |none::r=>none::f8 r
def FU:List (Option Bool)->aF->Bool
 | [],_=>true
 |some k::r,some x::m=>(bif k then jQ x.row&&Nat.beq x.gen 0 else !(jQ x.row))&&FU r m
 |none::r,none::m=>FU r m
 |_,_=>false
def jD:aF->List Nat
 | []=> []
 |some x::r=>x.row.refs++jD r
 |none::r=>jD r
def Ro:KV->Option (Nat×Nat)
 | .msw b g=>some (b,g)
 | .ms b g _ _=>some (b,g)
 |_=>none
def Mz(m:Nat)(refs:List Nat)(mem:aF)(v:KV):Bool:=
 match Ro v with
 |some q=>Nat.ble m q.1&&Nat.beq (cP q.1 refs) 1&&(match eO mem q.1 with
  |some (some x)=>Nat.beq x.gen q.2&&!x.frz&&(match x.row with| .ts β ag T _=>!(Bu β ag T)|_=>false)
  |_=>false)
 |none=>false
def m9(c:Nat):List (Nat×Nat×KV)->Option (Nat×KV)
 | []=>none
 |(i,c',v)::r=>bif Nat.beq c c' then some (i,v)else m9 c r
def Lf{α:Type}:Option α->Bool
 |none=>true
 |some _=>false
def rZ(m:Nat)(refs:List Nat)(mem:aF)(all:List (Nat×Nat×KV)):List (Nat×Nat×KV)->Nat->Option Nat
 | [],_=>none
 |(_,c,v)::r,k=>bif Mz m refs mem v&&Lf (m9 c (cS all k))then some k else rZ m refs mem all r (k+1)
def qY(m:Nat)(refs:List Nat)(mem:aF):aF->Nat->Option (Nat×Nat)
 | [],_=>none
 |none::r,b=>qY m refs mem r (b+1)
 |some x::r,b=>match x.row with
  | .os _ _ hs=>(match rZ m refs mem hs hs 0 with
   |some k=>some (b,k)
   |none=>qY m refs mem r (b+1))
  |_=>qY m refs mem r (b+1)
def Gv(mem:aF)(v:KV)(k:Nat->KRow->Option R):Option R:=
 match v with
 | .msw b g=>oX mem b g λx=>bif x.frz then none else k b x.row
 | .ms b g o n=>I.guard (Nat.beq o 0) (oX mem b g λx=>bif x.frz then none else
   (match x.row with
   | .ts β ag T xs=>I.guard (Nat.ble n xs.length) (k b (.ts β ag T (xs.take n)))
   |_=>none))
 |_=>none
def CT(mem:aF)(b j:Nat)(k:aF->Option R):Option R:=
 match eO mem b with
 |some (some x)=>(match x.row with
  | .os T xs hs=>(match eO hs j with
   |some h=>Gv I mem h.2.2 λb' row=>(match row with
    | .ts β ag' T' ys=>bif !(Bu β ag' T')&&!(Nat.beq b' b)&&Lf (m9 h.2.1 (cS hs j))then
      I.getN xs h.1 λp=>(match eO (cellsOf false T p) h.2.1 with
       |some (.tsl _ ag'' T'' _)=>bif eP ag'' ag'&&Ty.beq T'' T' then
         fE I mem T (c6 (cellsOf false T p) h.2.1 [.tsl false ag' T' ys]) λz _ _=>k (s6 none (s6 (some ⟨x.gen,x.frz,.os T (xs.set h.1 z) (cS hs j)⟩) mem b) b')else none
       |_=>none)
     else none
    |_=>none)
   |none=>none)
  |_=>none)
 |_=>none
def B5(m:Nat)(vs:List KV):Nat->aF->(aF->Option R)->Option R
 |0,mem,k=>k mem
 |n+1,mem,k=>match qY m (KV.refsAll vs++jD mem) mem mem 0 with
  |none=>k mem
  |some q=>CT I mem q.1 q.2 λmem'=>B5 m vs n mem' k
def Kx(mem:aF)(b:Nat):Bool:=
 match eO mem b with
 |some (some _)=>true
 |_=>false
def FF(m:Nat)(vs:List KV):Nat->aF->aF
 |0,mem=>mem
 |b+1,mem=>FF m vs b (bif Nat.ble m b&&Kx mem b&&Nat.beq (cP b (KV.refsAll vs++jD mem)) 0 then s6 none mem b else mem)
def Ok(m:Nat)(vs:List KV)(mem:aF)(k:aF->Option R):Option R:=B5 I m vs 64 (FF m vs mem.length mem) k
def Cp(keep:Bool)(old:List (Option Bool))(vs:List KV)(mem0:aF)(k:List KV->aF->Option R):Option R:=
 Ok I old.length vs mem0 λmem=>
 let ids:=yI mem (lA mem (old.length+(KV.refsAll vs).length)) (p0 0 old.length++KV.refsAll vs) []
 bif FU old mem&&dY ids&&zF 0 old.length ids then k (KV.renAll (oB old.length keep mem ids) vs) (qT old.length keep (oB old.length keep mem ids) mem 0 ids)else none
def KV.frz(m:Nat)(mem:aF):KV->KV
 | .msw b g=>bif Nat.ble m b then
   (match eO mem b with
   |some (some x)=>bif Nat.beq x.gen g then(match x.row with
    | .ts β ag T xs=> .tsl (Bu β ag T) ag T xs
    |_=> .msw b g)else .msw b g
   |_=> .msw b g)
  else .msw b g
 |v=>v
def KV.frzAll(m:Nat)(mem:aF):List KV->List KV
 | []=> []
 |v::r=>v.frz m mem::KV.frzAll m mem r
def zE(m:Nat)(mem:aF):KV->KV
 | .tup vs=> .tup (KV.frzAll m mem vs)
 | .agg vs=> .agg (KV.frzAll m mem vs)
 |v=>v.frz m mem
mutual
def KV.lent:KV->Bool
 | .tsl β _ _ _=>β
 | .el β _ _ _ _=>β
 | .fn _ fi ca=>KV.lentAny fi||KV.lentAny ca
 | .agg cs=>KV.lentAny cs
 | .tup vs=>KV.lentAny vs
 | .lit _=>false
 | .ptr _ _ _ _=>false
 | .ms _ _ _ _=>false
 | .msw _ _=>false
 | .dead=>false
 | .gone=>true
 | .unkB=>true
def KV.lentAny:List KV->Bool
 | []=>false
 |v::r=>v.lent||KV.lentAny r
end
def zS:List (Nat×Nat×KV)->Bool
 | []=>false
 |(_,_,v)::r=>v.lent||zS r
def v9:aF->Bool
 | []=>false
 |some x::r=>(match x.row with| .cells _ cs=>KV.lentAny cs| .ts β ag T _=>Bu β ag T| .os _ _ hs=>zS hs)||v9 r
 |none::r=>v9 r
def Dr(mem:aF)(b:Nat):Bool:=
 match eO mem b with
 |some (some x)=>iX x.row
 |_=>false
def Aw(mem:aF):KV->Bool
 | .msw b _=>Dr mem b
 | .ms b _ _ _=>Dr mem b
 |_=>false
def O4(mem:aF):KV->Bool
 | .msw b _=>Dr mem b
 |_=>false
def Hw(mem:aF):KV->Bool
 | .ptr b _ _ _=>Dr mem b
 |_=>false
def H2(c:Nat):List (Nat×Nat×KV)->List (Nat×Nat×KV)
 | []=> []
 |(i,c',v)::r=>bif Nat.beq c c' then r else(i,c',v)::H2 c r
abbrev c7:=List (Nat×Nat×KV)
def Dm(tk:Bool)(i c:Nat)(v:KV)(hs:c7)(nb:Nat)(k:KV->c7->List KRow->Option R):Option R:=
 match m9 c hs with
 |some h=>I.guard (Nat.beq i h.1) (k h.2 hs [])
 |none=>match v with
  | .lit u=>k (.lit u) hs []
  | .tsl _ ag T ys=>bif tk then k (.msw nb 0) ((i,c,.msw nb 0)::hs) [.ts false ag T ys]else none
  |_=>none
def FS(tk:Bool)(i:Nat):List KV->Nat->c7->Nat->(List KV->c7->List KRow->Option R)->Option R
 | [],_,hs,_,k=>k [] hs []
 |v::vs,c,hs,nb,k=>Dm I tk i c v hs nb λa hs1 rows=>FS tk i vs (c+1) hs1 (nb+rows.length) λas hs2 rows2=>k (a::as) hs2 (rows++rows2)
def qQ:List KRow->aF
 | []=> []
 |r::rs=>some ⟨0,false,r⟩::qQ rs
def Nc(b:Nat)(bx:dE)(T:Ty)(xs:List (den T))(v:KV)(hs:c7):List KRow->bC
 | []=>⟨v,[b],[],[]⟩
 |r::rs=>⟨v,[b],[(b,⟨bx.gen,bx.frz,.os T xs hs⟩)],qQ (r::rs)⟩
def NT(tk:Bool)(t:TypeId)(mem:aF)(a:KV)(k:bC->Option R):Option R:=
 match tab t with
 |some ti=>(match a with
  | .ptr b g i c=>vB mem b g λbx=>(match bx.row with
   | .os T xs hs=>(match ti.ty with
    |some T'=>I.getN xs i λx=>bif aV (c8 T') (((cellsOf true T x).drop c).take ti.n)then
      FS I tk i (((cellsOf true T x).drop c).take ti.n) c hs mem.length λvs hs' rows=>
       bif ti.ag then k (Nc b bx T xs (.agg vs) hs' rows)else(match vs with| [v]=>k (Nc b bx T xs v hs' rows)|_=>none)
     else none
    |none=>none)
   |_=>none)
  |_=>none)
 |none=>none
def GE(i c:Nat)(hs:c7)(k:c7->Option R):Option R:=
 match m9 c hs with
 |none=>k hs
 |some h=>bif Lf (m9 c (H2 c hs))then I.guard (Nat.beq i h.1) (k (H2 c hs))else none
def J9(t:TypeId)(mem:aF)(a x:KV)(k:bC->Option R):Option R:=
 match tab t with
 |some ti=>(match a with
  | .ptr b g i c=>vB mem b g λbx=>(match bx.row with
   | .os T xs hs=>bif Nat.beq ti.n 1&&!bx.frz&&RV x then I.getN xs i λp=>(match eO (cellsOf false T p) c with
     |some (.lit u)=>(match x with
      | .lit v=>bif FO u v&&Lf (m9 c hs)then fE I mem T (c6 (cellsOf false T p) c [.lit v]) λz _ _=>k ⟨.lit undef,[b],[(b,⟨bx.gen,bx.frz,.os T (xs.set i z) hs⟩)],[]⟩else none
      |_=>none)
     |some (.tsl _ ag' T' _)=>(match x with
      | .lit (.slice none 0 0)=>GE I i c hs λhs'=>fE I mem T (c6 (cellsOf false T p) c [.tsl false ag' T' []]) λz _ _=>k ⟨.lit undef,[b],[(b,⟨bx.gen,bx.frz,.os T (xs.set i z) hs'⟩)],[]⟩
      | .msw b2 g2=>GE I i c hs λhs'=>k ⟨.lit undef,[b],[(b,⟨bx.gen,bx.frz,.os T xs ((i,c,.msw b2 g2)::hs')⟩)],[]⟩
      | .ms b2 g2 o2 n2=>GE I i c hs λhs'=>k ⟨.lit undef,[b],[(b,⟨bx.gen,bx.frz,.os T xs ((i,c,.ms b2 g2 o2 n2)::hs')⟩)],[]⟩
      |_=>none)
     |_=>none)else none
   |_=>none)
  |_=>none)
 |none=>none
def Ru(t:TypeId)(mem:aF)(x:KV)(k:bC->Option R):Option R:=
 match tab t with
 |some ti=>(match ti.tk,x with
  | .sl _,.msw b g=>vB mem b g λbx=>(match bx.row with
   | .os _ xs _=>k ⟨.lit (.int .i64 (aC xs)),[b],[],[]⟩
   |_=>none)
  |_,_=>none)
 |none=>none
def Kg(t:TypeId)(mem:aF)(x:KV)(i:Int)(k:bC->Option R):Option R:=
 vG tab t λet te=>
  match x with
  | .ms b g o n=>vB mem b g λbx=>bif Nat.beq te.n (qX bx.row)then I.guard (decide (0≤i)&&decide (i<(n:Int))) (k ⟨.ptr b g (o+i.toNat) 0,[b],[],[]⟩)else none
  | .msw b g=>vB mem b g λbx=>bif Nat.beq te.n (qX bx.row)then I.guard (decide (0≤i)&&decide (i<(fD bx.row:Int))) (k ⟨.ptr b g i.toNat 0,[b],[],[]⟩)else none
  |_=>none
def Kz(t:TypeId)(mem:aF)(x:KV)(lo hi mx:Option Int)(k:bC->Option R):Option R:=
 vG tab t λet te=>
  match x with
  | .ms b g o n=>vB mem b g λbx=>bif Nat.beq te.n (qX bx.row)then mA I n lo hi mx λl h=>k ⟨.ms b g (o+l) (h-l),[b],[],[]⟩else none
  | .msw b g=>vB mem b g λbx=>bif Nat.beq te.n (qX bx.row)then mA I (fD bx.row) lo hi mx λl h=>k ⟨.ms b g l (h-l),[b],[],[]⟩else none
  |_=>none
def OA(T:Ty)(v:KV)(j c:Nat):Option (KV×c7):=
 match T,v with
 | .int k,.lit (.int k' x)=>bif iK k k' then some (.lit (.int k' x),[])else none
 | .bool,.lit (.bool b)=>some (.lit (.bool b),[])
 | .str,.lit (.string s)=>some (.lit (.string s),[])
 | .sl ag T,.lit (.slice none 0 0)=>some (.tsl false ag T [],[])
 | .sl ag T,.msw b g=>some (.tsl false ag T [],[(j,c,.msw b g)])
 | .sl ag T,.ms b g o n=>some (.tsl false ag T [],[(j,c,.ms b g o n)])
 |_,_=>none
def R5:List Ty->List KV->Nat->Nat->Option (List KV×c7)
 | [],[],_,_=>some ([],[])
 |T::Ts,v::vs,j,c=>(match OA T v j c with
  |some a=>(match R5 Ts vs j (c+1)with
   |some q=>some (a.1::q.1,a.2++q.2)
   |none=>none)
  |none=>none)
 |_,_,_,_=>none
def Gd(T:Ty):List (List KV)->Nat->(List (den T)->c7->Option R)->Option R
 | [],_,k=>k [] []
 |cs::r,j,k=>(match R5 (c8 T) cs j 0 with
  |some a=>fE I [] T a.1 λx _ _=>Gd T r (j+1) λxs hs=>k (x::xs) (a.2++hs)
  |none=>none)
def wY(n:Nat):c7->Option R->Option R
 | [],k=>k
 |h::r,k=>I.guard (Nat.blt h.1 n) (wY n r k)
def GT(own:Bool)(t tx:TypeId)(mem:aF)(rs:Nat)(x y:KV)(k:bC->Option R):Option R:=
 vG tab t λet te=>Mc I tab et mem y λyr yrd=>
 match yr with
 | .cells e cs=>(match te.ty with
  |some T=>bif Nat.beq te.n e&&Gu tab tx y&&Nat.ble te.bytes 4096&&Nat.ble 1 te.n&&Nat.beq te.zero.length te.n&&vE cs&&eP te.ag (fB T)then
   (match x with
   | .lit (.slice none 0 0)=>bif own then Gd I T (chunks te.n (aR te.n cs.length) cs) 0 λzs hs=>
     I.guard (Nat.ble 1 zs.length&&Nat.ble zs.length bJ) (k ⟨.msw rs 0,yrd,[(rs,⟨0,false,.os T zs hs⟩)],[]⟩)else none
   | .msw b g=>vB mem b g λbx=>(match bx.row with
    | .os T' xs hs=>Gd I T (chunks te.n (aR te.n cs.length) cs) xs.length λzs hs'=>(match q9 T T' zs with
     |some ys=>bif !bx.frz&&Ty.beq T T' then wY I xs.length hs (I.guard (Nat.ble (xs++ys).length bJ) (k ⟨.msw b (g+1),b::yrd,[(b,⟨g+1,false,.os T' (xs++ys) (hs++hs')⟩)],[]⟩))else none
     |none=>none)
    |_=>none)
   | .ms b g o n=>I.guard (Nat.beq o 0) (vB mem b g λbx=>(match bx.row with
    | .os T' xs hs=>Gd I T (chunks te.n (aR te.n cs.length) cs) n λzs hs'=>(match q9 T T' zs with
     |some ys=>bif !bx.frz&&Ty.beq T T' then I.guard (Nat.ble n xs.length) (wY I n hs (I.guard (Nat.ble (xs.take n++ys).length bJ) (k ⟨.msw b (g+1),b::yrd,[(b,⟨g+1,false,.os T' (xs.take n++ys) (hs++hs')⟩)],[]⟩)))else none
     |none=>none)
    |_=>none))
   |_=>none)
   else none
  |none=>none)
 |_=>none
end
end
end Go.Ab
