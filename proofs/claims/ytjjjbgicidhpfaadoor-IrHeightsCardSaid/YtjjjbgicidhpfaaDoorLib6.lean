import Derived.Test.YtjjjbgicidhpfaaDoorLib1
set_option linter.unusedVariables false
namespace Go.Ab
noncomputable section
inductive Ty where
 |int (k:IntKind)
 |bool
 |str
 |sl (ag:Bool) (T:Ty)
 |cons (a b:Ty)
def JZ:Bool->Bool->Bool
 |true,b=>b
 |false,_=>false
theorem q9(a b:Bool):JZ a b=(a&&b):=by cases a<;>rfl
def den(T:Ty):Type:=Ty.rec (λ_=>Int) Bool ByteArray (λ_ _ ih=>List ih) (λ_ _ a b=>a×b) T
def Ty.size(T:Ty):Nat:=Ty.rec (λ_=>1) 1 1 (λ_ _ _=>1) (λ_ _ a b=>a+b) T
def Ty.flat(T:Ty):Bool:=Ty.rec (λ_=>true) true true (λ_ _ _=>false) (λ_ _ a b=>JZ a b) T
def fJ:Bool->Bool->Bool
 |true,b=>b
 |false,b=>!b
def Ty.beq:Ty->Ty->Bool
 | .int k,.int k'=>jS k k'
 | .bool,.bool=>true
 | .str,.str=>true
 | .sl g T,.sl g' T'=>JZ (fJ g g') (Ty.beq T T')
 | .cons a b,.cons a' b'=>JZ (Ty.beq a a') (Ty.beq b b')
 |_,_=>false
theorem V6{a b:IntKind}(h:jS a b=true):a=b:=by cases a<;>cases b<;>first|rfl|cases h
theorem iR{a b:Bool}(h:fJ a b=true):a=b:=by cases a<;>cases b<;>first|rfl|cases h
theorem Ty.eq_of_beq: ∀{a b:Ty},Ty.beq a b=true->a=b
 | .int _,.int _,h=>by rw[V6 h]
 | .bool,.bool,_=>rfl
 | .str,.str,_=>rfl
 | .sl g T,.sl g' T',h=>by
  simp only[Ty.beq,q9,yc]at h;rw[iR h.1,Ty.eq_of_beq h.2]
 | .cons a b,.cons a' b',h=>by
  simp only[Ty.beq,q9,yc]at h;rw[Ty.eq_of_beq h.1,Ty.eq_of_beq h.2]
 | .int _,.bool,h| .int _,.str,h| .int _,.sl _ _,h| .int _,.cons _ _,h=>by cases h
 | .bool,.int _,h| .bool,.str,h| .bool,.sl _ _,h| .bool,.cons _ _,h=>by cases h
 | .str,.int _,h| .str,.bool,h| .str,.sl _ _,h| .str,.cons _ _,h=>by cases h
 | .sl _ _,.int _,h| .sl _ _,.bool,h| .sl _ _,.str,h| .sl _ _,.cons _ _,h=>by cases h
 | .cons _ _,.int _,h| .cons _ _,.bool,h| .cons _ _,.str,h| .cons _ _,.sl _ _,h=>by cases h
def KP{F:Ty->Type}{a b:Ty}(c:Bool)(h:Ty.beq a b=c)(x:F a):Option (F b):=
 match c,h with
 |true,h=>some (Ty.eq_of_beq h ▸ x)
 |false,_=>none
def vB(a b:Ty)(xs:List (den a)):Option (List (den b)):=KP (F:=λT=>List (den T)) (Ty.beq a b) rfl xs
inductive KV where
 |lit (v:Value)
 |tsl (β ag:Bool) (T:Ty) (xs:List (den T))
 |el (β ag:Bool) (T:Ty) (x:den T) (c:Nat)
 |ptr (b g i c:Nat)
 |ms (b g o n:Nat)
 |msw (b g:Nat)
 |fn (f:Fn) (first cap:List KV)
 |agg (cs:List KV)
 |tup (vs:List KV)
 |dead
 |gone
 |unkB
inductive KRow where
 |ts (β ag:Bool) (T:Ty) (xs:List (den T))
 |cells (e:Nat) (cs:List KV)
 |os (T:Ty) (xs:List (den T)) (hs:List (Nat×Nat×KV))
structure dW where
 gen:Nat
 frz:Bool
 row:KRow
abbrev aH:=List (Option dW)
structure BC where
 env:Nat->KV
 mem:aH
structure bK where
 v:KV
 rd:List Nat
 wr:List (Nat×dW)
 push:aH
inductive O3 where
 |normal|exit (id:Nat)|ret|goto (l:Nat)
def bD:Bool->Ty->Bool
 |false,.int _=>true
 |_,_=>false
structure WS (R:Type) where
 ite:Bool->Option R->Option R->Option R
 guard:Bool->Option R->Option R
 get:{α:Type}->List α->Int->(α->Option R)->Option R
 getN:{α:Type}->List α->Nat->(α->Option R)->Option R
 bind:{α:Type}->Option α->(α->Option R)->Option R
 sum:{α β:Type}->α⊕β->(α->Option R)->(β->Option R)->Option R
 loop:Nat->BC->(O3->BC->Option R)->Option R
 ask:FuncId->List KV->aH->(KV->aH->Option R)->Option R
 amb:Option R->Option R->Option R
def aZ(R:Type):WS R:={ite:=λc a b=>cond c a b,guard:=λc a=>cond c a none,get:=λxs i k=>(aF xs i).bind k,getN:=λxs i k=>(xs[i]?).bind k,bind:=λx k=>x.bind k,sum:=λx f g=>Sum.rec f g x,loop:=λ_ _ _=>none,ask:=λ_ _ _ _=>none,amb:=λa b=>Go.Ab.amb a b}
def gF:Ty->Bool
 | .sl _ _=>false
 |_=>true
def kJ:KRow->Bool
 | .os _ _ _=>true
 |_=>false
def CZ(β ag:Bool)(T:Ty):Bool:=
 match T with
 | .int _=>bif ag then β else false
 |_=>β
def aK(k:IntKind)(a b:Int):Int:=k.wrap (a+b)
def bY(k:IntKind)(a b:Int):Int:=k.wrap (a-b)
def SJ(k:IntKind)(a b:Int):Int:=k.wrap (a*b)
def Tz(k:IntKind)(a b:Int):Int:=k.wrap (a.tdiv b)
def ST(a b:Int):Int:=a.tmod b
def Xg(k:IntKind)(a b:Int):Int:=k.wrap (a*2 ^ (min b.toNat k.bits))
def SK(k:IntKind)(a b:Int):Int:=a.fdiv (2 ^ (min b.toNat k.bits))
def Xp(k:IntKind)(a b:Int):Int:=k.wrap (BitVec.ofInt k.bits a &&& BitVec.ofInt k.bits b).toNat
def WN(k:IntKind)(a b:Int):Int:=k.wrap (BitVec.ofInt k.bits a ||| BitVec.ofInt k.bits b).toNat
def Xo(k:IntKind)(a b:Int):Int:=k.wrap (BitVec.ofInt k.bits a ^^^ BitVec.ofInt k.bits b).toNat
def VL(k:IntKind)(a b:Int):Int:=k.wrap (BitVec.ofInt k.bits a &&& ~~~BitVec.ofInt k.bits b).toNat
def Xd(k:IntKind)(n:Int):Int:=k.wrap (BitVec.ofInt k.bits (if k.signed then-1 else k.max) ^^^ BitVec.ofInt k.bits n).toNat
def bJ(k:IntKind)(n:Int):Int:=k.wrap n
def Xj(a b:ByteArray):Bool:=a.toList==b.toList
def aC{α:Type}(xs:List α):Int:=(xs.length:Int)
def CL(s:ByteArray):Int:=(s.size:Int)
def U4(x y:Int):Int:=bif decide (y<x)then y else x
def N3(x y:Int):Int:=bif decide (y>x)then y else x
inductive TK where
 |int (k:IntKind)|bool|str|sl (et:TypeId)|st (fs:List (Nat×Nat×TypeId))|ptr|arr (n:Nat) (e:TypeId)|other
structure TI where
 tk:TK
 n:Nat
 bytes:Nat
 ag:Bool
 ty:Option Ty
 eq:Bool
 zero:List Value
section
variable {R:Type} (I:WS R) (tab:TypeId->Option TI)
def qC(env:Nat->KV)(d:Nat)(v:KV):Nat->KV:=λt=>bif Nat.beq t d then v else env t
def BS(env:Nat->KV)(dst:Option Tmp)(v:KV):Nat->KV:=
 match dst with
 |some d=>qC env d v
 |none=>env
def Lx:Value->KV
 | .agg cs=> .agg (cs.toList.map .lit)
 |v=> .lit v
def AP:List Value->Bool
 | []=>true
 |v::r=>oQ v&&AP r
def Ll:Value->Bool
 | .agg cs=>AP cs.toList
 |_=>true
def f8[cS](env:Nat->KV)(x:Operand)(k:KV->Option R):Option R:=
 match x with
 | .tmp t=>(match env t with| .gone=>none|v=>k v)
 | .const v=>bif Ll v then k (Lx v)else none
 | .func f=>k (.fn (.func f) [] [])
 | .global g=>(match cS.tab g with|some q=>k (.el true true (.cons (.int .i64) (.int .i64)) (q.1,q.2) 0)|none=>none)
def w8[cS](env:Nat->KV):List Operand->(List KV->Option R)->Option R
 | [],k=>k []
 |x::r,k=>f8 env x λv=>w8 env r λvs=>k (v::vs)
def FN[cS](env:Nat->KV):List (Nat×Operand)->(List (Nat×KV)->Option R)->Option R
 | [],k=>k []
 |(i,x)::r,k=>f8 env x λv=>FN env r λvs=>k ((i,v)::vs)
def Nm[cS](env:Nat->KV):Option Operand->(Option Int->Option R)->Option R
 |none,k=>k none
 |some x,k=>f8 env x λv=>
  match v with
  | .lit (.int _ n)=>k (some n)
  |_=>none
def KV.cells:KV->List KV
 | .agg cs=>cs
 |v=> [v]
def TY:KV->Bool
 | .lit v=>v.oneCell'
 | .agg _=>false
 | .tup _=>false
 | .gone=>false
 |_=>true
def w5:List KV->Bool
 | []=>true
 |v::r=>TY v&&w5 r
def cellsOf(β:Bool)(T:Ty):den T->List KV:=
 Ty.rec (motive:=λT=>den T->List KV) (λk x=> [.lit (.int k x)]) (λx=> [.lit (.bool x)]) (λx=> [.lit (.string x)])
  (λag T _ xs=> [.tsl β ag T xs]) (λ_ _ iha ihb x=>iha x.1++ihb x.2) T
def qR(mem:aH)(b g:Nat)(k:dW->Option R):Option R:=
 match fD mem b with
 |some (some x)=>bif Nat.beq x.gen g&&!(kJ x.row)then k x else none
 |_=>none
def yL(mem:aH)(b g:Nat)(k:dW->Option R):Option R:=
 match fD mem b with
 |some (some x)=>bif Nat.beq x.gen g&&kJ x.row then k x else none
 |_=>none
def E2(o n:Nat)(row:KRow)(k:KRow->Option R):Option R:=
 match row with
 | .ts β ag T xs=>I.guard (Nat.ble (o+n) xs.length) (k (.ts β ag T ((xs.drop o).take n)))
 | .cells e cs=>I.guard (Nat.ble ((o+n)*e) cs.length) (k (.cells e ((cs.drop (o*e)).take (n*e))))
 | .os _ _ _=>none
def sR:KRow->Nat
 | .ts _ _ T _=>T.size
 | .cells e _=>e
 | .os T _ _=>T.size
def gD:KRow->Nat
 | .ts _ _ _ xs=>xs.length
 | .cells e cs=>aY e cs.length
 | .os _ xs _=>xs.length
def lC:KRow->Bool
 | .cells _ _=>true
 | .ts _ _ _ _=>false
 | .os _ _ _=>false
def Rt:KRow->KRow
 | .os T xs _=> .ts false (gF T) T xs
 |r=>r
def FQ:KRow->Bool
 | .os _ _ (_::_)=>false
 |_=>true
def Ai(et:TypeId)(k:KRow->Option R):Option R:=
 match tab et with
 |some ti=>(match ti.ty with|some T=>k (.ts false ti.ag T [])|none=>none)
 |none=>none
def MY(et:TypeId)(mem:aH)(v:KV)(k:KRow->List Nat->Option R):Option R:=
 match v with
 | .tsl β ag T xs=>(match tab et with
  |some te=>(match te.ty with
   |some T'=>bif T'.flat then(bif T.flat then k (.ts false ag T xs) []else none)else k (.ts (CZ β ag T) ag T xs) []
   |none=>none)
  |none=>none)
 | .ms b g o n=>qR mem b g λx=>E2 I o n x.row λr=>k r [b]
 | .msw b g=>qR mem b g λx=>k x.row [b]
 | .lit (.string s)=>k (.ts false false (.int .u8) (c7 s)) []
 | .lit (.slice none 0 0)=>Ai tab et λr=>k r []
 |_=>none
def gG(mem:aH):(T:Ty)->List KV->(den T->Bool->List Nat->Option R)->Option R
 | .int k,cs,K=>(match cs with| [.lit (.int k' x)]=>bif jS k k' then K x false []else none|_=>none)
 | .bool,cs,K=>(match cs with| [.lit (.bool x)]=>K x false []|_=>none)
 | .str,cs,K=>(match cs with| [.lit (.string x)]=>K x false []|_=>none)
 | .sl ag T,cs,K=>(match cs with
  | [.tsl β ag' T' xs]=>bif fJ ag ag' then(match vB T' T xs with|some ys=>K ys β []|none=>none)else none
  | [.lit (.slice none 0 0)]=>K [] false []
  | [.msw b g]=>qR mem b g λx=>denRow ag T (gG mem T) b x.row K
  | [.ms b g o n]=>qR mem b g λx=>E2 I o n x.row λr=>denRow ag T (gG mem T) b r K
  |_=>none)
 | .cons a b,cs,K=>gG mem a (cs.take a.size) λx β1 l1=>gG mem b (cs.drop a.size) λy β2 l2=>K (x,y) (β1||β2) (l1++l2)
 where
 denAll (ag:Bool) (T:Ty) (f:List KV->(den T->Bool->List Nat->Option R)->Option R):List (List KV)->(List (den T)->Bool->List Nat->Option R)->Option R
  | [],K=>K [] false []
  |c::r,K=>f c λx β1 l1=>denAll ag T f r λxs β2 l2=>K (x::xs) (β1||β2) (l1++l2)
 denRow (ag:Bool) (T:Ty) (f:List KV->(den T->Bool->List Nat->Option R)->Option R) (b:Nat) (row:KRow) (K:List (den T)->Bool->List Nat->Option R):Option R:=
  match row with
  | .ts β ag' T' xs=>bif fJ ag ag' then(match vB T' T xs with|some ys=>K ys (CZ β ag T) [b]|none=>none)else none
  | .cells e cs=>bif Nat.beq e T.size then denAll ag T f (chunks e (aY e cs.length) cs) λxs β l=>K xs β (b::l)else none
  | .os _ _ _=>none
def It(mem:aH):List KV->Option (Nat×KRow×Option (Nat×Nat))
 | [.msw b g]=>(match fD mem b with
  |some (some x)=>bif Nat.beq x.gen g&&kJ x.row&&!x.frz then some (b,x.row,none)else none
  |_=>none)
 | [.ms b g o n]=>(match fD mem b with
  |some (some x)=>bif Nat.beq x.gen g&&kJ x.row&&!x.frz then some (b,x.row,some (o,n))else none
  |_=>none)
 |_=>none
def Bj(mem:aH):(T:Ty)->List KV->(den T->Bool->List Nat->Option R)->Option R
 | .int k,cs,K=>gG I mem (.int k) cs K
 | .bool,cs,K=>gG I mem .bool cs K
 | .str,cs,K=>gG I mem .str cs K
 | .sl ag T,cs,K=>(match It mem cs with
  |some q=>(match q.2.1 with
   | .os T' xs []=>bif fJ ag (gF T')then(match vB T' T xs with
     |some ys=>(match q.2.2 with
      |none=>K ys false [q.1]
      |some p=>I.guard (Nat.beq p.1 0) (I.guard (Nat.ble p.2 ys.length) (K (ys.take p.2) false [q.1])))
     |none=>none)else none
   |_=>none)
  |none=>gG I mem (.sl ag T) cs K)
 | .cons a b,cs,K=>Bj mem a (cs.take a.size) λx β1 l1=>Bj mem b (cs.drop a.size) λy β2 l2=>K (x,y) (β1||β2) (l1++l2)
def Rn(mem:aH)(ag:Bool)(T:Ty)(v:KV)(K:den T->Bool->List Nat->Option R):Option R:=bif Nat.beq v.cells.length T.size then Bj I mem T v.cells K else none
def Lp(mem:aH)(ag:Bool)(T:Ty):List KV->(List (den T)->Bool->List Nat->Option R)->Option R
 | [],K=>K [] false []
 |v::r,K=>Rn I mem ag T v λx β1 l1=>Lp mem ag T r λxs β2 l2=>K (x::xs) (β1||β2) (l1++l2)
def pN(mem:aH):List Nat->List (Nat×dW)
 | []=> []
 |b::r=>match fD mem b with
  |some (some x)=>bif FQ x.row then(b,⟨x.gen,true,Rt x.row⟩)::pN mem r else pN mem r
  |_=>pN mem r
def nD:List KV->List KV
 | []=> []
 |v::r=>v.cells++nD r
def s0(e:Nat):List KV->Bool
 | []=>true
 |v::r=>Nat.beq v.cells.length e&&s0 e r
def jZ(β:Bool)(T:Ty):List (den T)->List KV
 | []=> []
 |x::r=>cellsOf β T x++jZ β T r
def CJ(te:TI):KRow->Option (List KV)
 | .ts β ag T xs=>
  match te.ty with
  |some T'=>bif Ty.beq T' T&&fJ te.ag ag then some (jZ β T xs)else none
  |none=>none
 | .cells e cs=>some cs
 | .os _ _ _=>none
def jB(v:KV):bK:=⟨v,[],[],[]⟩
def P1(op:BinOp)(ka:IntKind)(a:Int)(kb:IntKind)(b:Int)(k:Value->Option R):Option R:=
 match op with
 | .shl=>I.guard (decide (0≤b)) (k (.int ka (Xg ka a b)))
 | .shr=>I.guard (decide (0≤b)) (k (.int ka (SK ka a b)))
 | .add=>bif jS ka kb then k (.int ka (aK ka a b))else none
 | .sub=>bif jS ka kb then k (.int ka (bY ka a b))else none
 | .mul=>bif jS ka kb then k (.int ka (SJ ka a b))else none
 | .quo=>bif jS ka kb then I.guard (!(b==0)) (k (.int ka (Tz ka a b)))else none
 | .rem=>bif jS ka kb then I.guard (!(b==0)) (k (.int ka (ST a b)))else none
 | .and=>bif jS ka kb then k (.int ka (Xp ka a b))else none
 | .or=>bif jS ka kb then k (.int ka (WN ka a b))else none
 | .xor=>bif jS ka kb then k (.int ka (Xo ka a b))else none
 | .andNot=>bif jS ka kb then k (.int ka (VL ka a b))else none
 | .eql=>bif jS ka kb then k (.bool (a==b))else none
 | .neq=>bif jS ka kb then k (.bool (a !=b))else none
 | .lss=>bif jS ka kb then k (.bool (decide (a<b)))else none
 | .leq=>bif jS ka kb then k (.bool (decide (a≤b)))else none
 | .gtr=>bif jS ka kb then k (.bool (decide (a>b)))else none
 | .geq=>bif jS ka kb then k (.bool (decide (a≥b)))else none
def Pn(isBool:Bool)(op:BinOp)(x y:Value)(k:Value->Option R):Option R:=
 match x,y with
 | .int ka a,.int kb b=>P1 I op ka a kb b k
 | .bool a,.bool b=>bif isBool then
  match op with
  | .eql=>k (.bool (a==b))
  | .neq=>k (.bool (!(a==b)))
  |_=>none
  else none
 | .string a,.string b=>
  match op with
  | .eql=>k (.bool (Xj a b))
  | .neq=>k (.bool (!(Xj a b)))
  |_=>none
 |_,_=>none
def Hy(a b:KV)(k:Bool->Option R):Option R:=
 match a,b with
 | .lit (.int ka a),.lit (.int kb b)=>bif jS ka kb then k (a==b)else none
 | .lit (.bool a),.lit (.bool b)=>k (a==b)
 | .lit (.string a),.lit (.string b)=>k (Xj a b)
 |_,_=>none
def kX(T:Ty)(v:KV):Bool:=
 match T,v with
 | .int k,.lit (.int k' _)=>jS k k'
 | .bool,.lit (.bool _)=>true
 | .str,.lit (.string _)=>true
 | .sl ag T,.tsl _ ag' T' _=>fJ ag ag'&&Ty.beq T T'
 |_,_=>false
def dO:Ty->List Ty
 | .cons a b=>dO a++dO b
 |T=> [T]
def a9:List Ty->List KV->Bool
 | [],[]=>true
 |T::Ts,v::vs=>kX T v&&a9 Ts vs
 |_,_=>false
def qH:List KV->List KV->(Bool->Option R)->Option R
 | [],[],k=>k true
 | [a],[b],k=>Hy a b k
 |a::as,b::bs,k=>Hy a b λq=>qH as bs λr=>k (q&&r)
 |_,_,_=>none
def eqTy?(t:TypeId):Option Ty:=
 match tab t with
 |some ti=>bif ti.eq then ti.ty else none
 |none=>none
def Rh(t:TypeId):Bool:=
 match tab t with
 |some ti=>(match ti.tk with| .bool=>true|_=>false)
 |none=>false
def Qv(t:TypeId):Bool:=
 match tab t with
 |some ti=>(match ti.tk with| .ptr=>true|_=>false)
 |none=>false
def Q3(t:TypeId):Bool:=
 match tab t with
 |some ti=>(match ti.tk with| .sl _=>true|_=>false)
 |none=>false
def Wk(op:BinOp)(t:TypeId)(x y:KV)(k:KV->Option R):Option R:=
 match x,y with
 | .tsl _ _ _ xs,.lit (.slice none 0 0)=>
  bif Q3 tab t then
   match op with
   | .eql=>I.ite xs.isEmpty (k .unkB) (k (.lit (.bool false)))
   | .neq=>I.ite xs.isEmpty (k .unkB) (k (.lit (.bool true)))
   |_=>none
  else none
 | .lit (.slice none 0 0),.lit (.slice none 0 0)=>
  bif Q3 tab t then
   match op with
   | .eql=>k (.lit (.bool true))
   | .neq=>k (.lit (.bool false))
   |_=>none
  else none
 | .lit a,.lit b=>Pn I (Rh tab t) op a b λv=>k (.lit v)
 | .agg a,.agg b=>
  (match eqTy? tab t with
  |some T=>bif T.flat&&a9 (dO T) a&&a9 (dO T) b then
    (match op with
    | .eql=>qH a b λr=>k (.lit (.bool r))
    | .neq=>qH a b λr=>k (.lit (.bool (!r)))
    |_=>none)else none
  |none=>none)
 | .ptr _ _ _ _,.lit (.pointer none)| .el _ _ _ _ _,.lit (.pointer none)=>
  bif Qv tab t then
   match op with
   | .eql=>k (.lit (.bool false))
   | .neq=>k (.lit (.bool true))
   |_=>none
  else none
 |_,_=>none
def W4(op:UnOp)(x:KV)(k:KV->Option R):Option R:=
 match x with
 | .lit v=>
  match op,v with
  | .neg,.int kd n=>k (.lit (.int kd (bY kd 0 n)))
  | .xor,.int kd n=>k (.lit (.int kd (Xd kd n)))
  | .not,.bool b=>k (.lit (.bool (!b)))
  |_,_=>none
 |_=>none
def CR(y:Nat)(x:Option Int)(d:Nat)(k:Nat->Option R):Option R:=
 match x with
 |none=>k d
 |some i=>I.guard (decide (0≤i)&&decide (i≤(y:Int))) (k i.toNat)
def n7(len:Nat)(lo hi mx:Option Int)(k:Nat->Nat->Option R):Option R:=
 bif mx.isNone||hi.isSome then CR I len mx len λm=>CR I m hi len λh=>CR I h lo 0 λl=>k l h else none
def dM(cs:List KV)(i:Nat):List KV->List KV
 | []=>cs
 |v::r=>dM (wM v cs i) (i+1) r
def Wi(t:TypeId)(mem:aH)(x:KV)(k:Int->List Nat->Option R):Option R:=
 match tab t with
 |some ti=>
  match ti.tk with
  | .str=>(match x with| .lit (.string s)=>k (CL s) []|_=>none)
  | .sl _=>
   match x with
   | .tsl _ _ _ xs=>k (aC xs) []
   | .ms b g o n=>k (n:Int) []
   | .msw b g=>qR mem b g λx=>(match x.row with| .ts _ _ _ xs=>k (aC xs) [b]| .cells e cs=>k (aY e cs.length:Nat) [b]| .os _ _ _=>none)
   | .lit (.slice none 0 0)=>k 0 []
   |_=>none
  |_=>none
 |none=>none
def I1(tx:TypeId)(y:KV):Bool:=
 match tab tx with
 |some ti=>
  match ti.tk,y with
  | .str,.lit (.string _)=>true
  | .sl _,.lit (.string _)=>false
  | .sl _,_=>true
  |_,_=>false
 |none=>false
def Id(te:TI)(x y:KRow)(k:KRow->Option R):Option R:=
 match x with
 | .ts β ag T xs=>
  (match y with
  | .ts β' ag' T' ys=>bif fJ ag ag' then(match vB T' T ys with|some zs=>k (.ts (β||β') ag T (xs++zs))|none=>none)else none
  |_=>none)
 | .os _ _ _=>none
 | .cells e xs=>(match CJ te y with
  |some ys=>bif w5 ys&&Nat.beq e (sR y)&&Nat.ble 1 e then k (.cells e (xs++ys))else none
  |none=>none)
def x8(t:TypeId)(k:TypeId->TI->Option R):Option R:=
 match tab t with
 |some ti=>(match ti.tk with| .sl et=>(match tab et with|some te=>k et te|none=>none)|_=>none)
 |none=>none
def Kn(boxed:Bool)(rs:Nat)(row:KRow)(rd:List Nat)(wr:List (Nat×dW))(k:bK->Option R):Option R:=
 bif boxed then(bif kJ row then none else k ⟨.msw rs 0,rd,wr++ [(rs,⟨0,false,row⟩)],[]⟩)else
 match row with
 | .ts β ag T xs=>k ⟨.tsl (CZ β ag T) ag T xs,rd,wr,[]⟩
 |_=>none
def Er(row:KRow)(k:Option R):Option R:=I.guard (Nat.ble (gD row) bU) k
def Jq:KRow->Bool
 | .ts _ ag T _=>bD ag T
 |_=>false
def Uf(o:Nat)(row z:KRow)(k:Option R):Option R:=bif Jq row then I.guard (Nat.beq o 0||Nat.ble 1 (gD z)) k else I.guard (Nat.beq o 0) k
def Lr(boxed vars:Bool)(t tx:TypeId)(mem:aH)(rs:Nat)(x y:KV)(k:bK->Option R):Option R:=
 x8 tab t λet te=>MY I tab et mem y λyr yrd=>
 bif Nat.beq te.n (sR yr)&&I1 tab tx y&&Nat.ble te.bytes 4096&&Nat.ble 1 te.n&&Nat.beq te.zero.length te.n then
  match x with
  | .lit (.slice none 0 0)=>
   Er I yr<|
   bif boxed then
    bif vars then(match CJ te yr with
     |some ys=>bif Nat.ble 1 (gD yr)&&w5 ys then k ⟨.msw rs 0,yrd,[(rs,⟨0,false,.cells (sR yr) ys⟩)],[]⟩else none
     |none=>none)
    else(match yr with| .ts _ _ _ _=>k ⟨.msw rs 0,yrd,[(rs,⟨0,false,yr⟩)],[]⟩|_=>none)
   else(match yr with| .ts β ag T xs=>k ⟨.tsl (CZ β ag T) ag T xs,yrd,[],[]⟩|_=>none)
  | .msw b g=>qR mem b g λbx=>Id te bx.row yr λz=>
   bif !bx.frz&&Nat.beq te.n (sR bx.row)then Er I z (k ⟨.msw b (g+1),b::yrd,[(b,⟨g+1,false,z⟩)],[]⟩)else none
  | .ms b g o n=>qR mem b g λbx=>E2 I o n bx.row λxr=>Id te xr yr λz=>
   bif !bx.frz&&Nat.beq te.n (sR bx.row)then Er I z (Uf I o bx.row z (k ⟨.msw b (g+1),b::yrd,[(b,⟨g+1,false,z⟩)],[]⟩))else none
  |_=>none
 else none
def PT(t:TypeId)(mem:aH)(x:KV)(i:Int)(k:bK->Option R):Option R:=
 match tab t with
 |some ti=>
  match ti.tk with
  | .sl et=>
   (match tab et with
   |some te=>
    match x with
    | .tsl β ag T xs=>bif Nat.beq te.n T.size then I.get xs i λv=>k (jB (.el β ag T v 0))else none
    | .ms b g o n=>qR mem b g λbx=>bif Nat.beq te.n (sR bx.row)then I.guard (decide (0≤i)&&decide (i<(n:Int))) (k ⟨.ptr b g (o+i.toNat) 0,[b],[],[]⟩)else none
    | .msw b g=>qR mem b g λbx=>bif Nat.beq te.n (sR bx.row)then I.guard (decide (0≤i)&&decide (i<(gD bx.row:Int))) (k ⟨.ptr b g i.toNat 0,[b],[],[]⟩)else none
    |_=>none
   |none=>none)
  | .arr n e=>
   (match tab e with
   |some te=>
    match x with
    | .ptr b g j c=>I.guard (decide (0≤i)&&decide (i<(n:Int))) (k (jB (.ptr b g j (c+i.toNat*te.n))))
    |_=>none
   |none=>none)
  |_=>none
 |none=>none
def Ht(ti:TI)(cs:List KV)(k:KV->Option R):Option R:=
 match ti.ty with
 |some T=>bif a9 (dO T) cs then(bif ti.ag then k (.agg cs)else match cs with| [v]=>k v|_=>none)else none
 |none=>none
def Ua(As:Nat):List KV->Nat->(KV->Option R)->Option R
 | [],_,_=>none
 |v::r,j,k=>I.ite (Nat.beq As j) (k v) (Ua As r (j+1) k)
def Hv(As:Nat)(v:KV)(cs:List KV):List KV->Nat->(List KV->Option R)->Option R
 | [],_,_=>none
 |_::r,j,k=>I.ite (Nat.beq As j) (k (wM v cs j)) (Hv As v cs r (j+1) k)
def QN(t:TypeId)(mem:aH)(a:KV)(k:bK->Option R):Option R:=
 match tab t with
 |some ti=>
  match a with
  | .el β ag T x c=>Ht ti ((((cellsOf β T x)).drop c).take ti.n) λv=>k (jB v)
  | .ptr b g i c=>qR mem b g λbx=>
   (match bx.row with
   | .cells e cs=>bif ti.ag then bif Nat.ble (i*e+c+ti.n) cs.length then k ⟨.agg ((cs.drop (i*e+c)).take ti.n),[b],[],[]⟩else none
     else Ua I (i*e+c) cs 0 λv=>k ⟨v,[b],[],[]⟩
   | .ts β ag T xs=>bif ti.ag&&bD ag T then none else I.getN xs i λx=>Ht ti (((cellsOf β T x).drop c).take ti.n) λv=>k ⟨v,[b],[],[]⟩
   | .os _ _ _=>none)
  |_=>none
 |none=>none
def P7(t:TypeId)(mem:aH)(a x:KV)(k:bK->Option R):Option R:=
 match tab t with
 |some ti=>
  match a with
  | .ptr b g i c=>qR mem b g λbx=>bif !bx.frz&&Nat.beq x.cells.length ti.n then
   (match bx.row with
   | .cells e cs=>bif Nat.beq ti.n 1 then(match x.cells with
     | [v]=>bif TY v then Hv I (i*e+c) v cs cs 0 λcs'=>k ⟨.lit undef,[b],[(b,⟨bx.gen,bx.frz,.cells e cs'⟩)],[]⟩else none
     |_=>none)
    else bif Nat.ble (i*e+c+ti.n) cs.length&&w5 x.cells then k ⟨.lit undef,[b],[(b,⟨bx.gen,bx.frz,.cells e (dM cs (i*e+c) x.cells)⟩)],[]⟩else none
   | .ts β ag T xs=>bif bD ag T then
     (match x with
     | .lit (.int kd v)=>bif Nat.beq c 0&&Nat.beq ti.n 1 then
       (match KP (F := den) (a := .int kd) (b := T) (Ty.beq (.int kd) T) rfl v with
       |some z=>I.guard (Nat.ble (i+1) xs.length) (k ⟨.lit undef,[b],[(b,⟨bx.gen,bx.frz,.ts β ag T (xs.set i z)⟩)],[]⟩)
       |none=>none)else none
     |_=>none)
    else bif Nat.ble (c+ti.n) T.size then
     (match ti.ty with
     |some T'=>Rn I mem ti.ag T' x λy β' l=>bif eY b l then none else
       bif Nat.beq c 0&&Nat.beq ti.n T.size then
        (match (bif fJ ti.ag ag then KP (F := den) (Ty.beq T' T) rfl y else none) with
        |some z=>I.guard (Nat.ble (i+1) xs.length) (k ⟨.lit undef,b::l,pN mem l++ [(b,⟨bx.gen,bx.frz,.ts (β||β') ag T (xs.set i z)⟩)],[]⟩)
        |none=>none)
       else I.getN xs i λp=>gG I mem T (dM (cellsOf false T p) c (cellsOf false T' y)) λz _ _=>
        k ⟨.lit undef,b::l,pN mem l++ [(b,⟨bx.gen,bx.frz,.ts (β||β') ag T (xs.set i z)⟩)],[]⟩
     |none=>none)
    else none
   | .os _ _ _=>none)
   else none
  |_=>none
 |none=>none
def Qi(t:TypeId)(mem:aH)(x:KV)(lo hi mx:Option Int)(k:bK->Option R):Option R:=
 match tab t with
 |some ti=>
  match ti.tk with
  | .str=>(match x with| .lit (.string s)=>bif mx.isNone then n7 I s.size lo hi none λl h=>k (jB (.lit (.string (s.extract l h))))else none|_=>none)
  | .sl et=>
   (match tab et with
   |some te=>
    match x with
    | .tsl β ag T xs=>bif Nat.beq te.n T.size then n7 I xs.length lo hi mx λl h=>k (jB (.tsl β ag T ((xs.take h).drop l)))else none
    | .ms b g o n=>qR mem b g λbx=>bif Nat.beq te.n (sR bx.row)then n7 I n lo hi mx λl h=>k ⟨.ms b g (o+l) (h-l),[b],[],[]⟩else none
    | .msw b g=>qR mem b g λbx=>bif Nat.beq te.n (sR bx.row)then n7 I (gD bx.row) lo hi mx λl h=>k ⟨.ms b g l (h-l),[b],[],[]⟩else none
    | .lit (.slice none 0 0)=>n7 I 0 lo hi mx λ_ _=>k (jB (.lit (.slice none 0 0)))
    |_=>none
   |none=>none)
  | .arr n e=>
   (match tab e with
   |some te=>
    match x with
    | .ptr b g i c=>bif Nat.beq i 0&&Nat.beq te.n 1 then qR mem b g λbx=>
      (match bx.row with
      | .cells e' cs=>bif Nat.beq e' 1&&Nat.ble (c+n) cs.length then n7 I n lo hi mx λl h=>k ⟨.ms b g (c+l) (h-l),[b],[],[]⟩else none
      |_=>none)else none
    |_=>none
   |none=>none)
  |_=>none
 |none=>none
def LH(s:TypeId)(f:Nat)(k:Nat->Nat->TypeId->Option R):Option R:=
 match tab s with
 |some ti=>(match ti.tk with| .st fs=>(match fD fs f with|some q=>bif Nat.ble 1 q.2.1 then k q.1 q.2.1 q.2.2 else none|none=>none)|_=>none)
 |none=>none
def GP(place:Nat->Option (Nat×Nat))(cs:List KV):List (Nat×KV)->Option (List KV)
 | []=>some cs
 |(i,v)::r=>match place i with
  |some q=>bif Nat.beq v.cells.length q.2&&Nat.ble (q.1+q.2) cs.length then GP place (dM cs q.1 v.cells) r else none
  |none=>none
def wU(vs:List KV):List (Nat×KV)->List KV
 | []=>vs
 |(i,v)::r=>wU (wM v vs i) r
def y4(n:Nat):List (Nat×KV)->Bool
 | []=>true
 |(i,_)::r=>Nat.ble (i+1) n&&y4 n r
def fW(ti:TI):KV:=bif ti.ag then .agg (ti.zero.map .lit)else match ti.zero with| [v]=> .lit v|_=> .gone
def yW(f:Int->Int->Int)(kd:IntKind):List KV->Int->Option Int
 | [],a=>some a
 | .lit (.int k' b)::r,a=>bif jS kd k' then yW f kd r (f a b)else none
 |_,_=>none
mutual
def KV.refs:KV->List Nat
 | .ptr b _ _ _=> [b]
 | .ms b _ _ _=> [b]
 | .msw b _=> [b]
 | .fn _ fi ca=>KV.refsAll fi++KV.refsAll ca
 | .agg cs=>KV.refsAll cs
 | .tup vs=>KV.refsAll vs
 | .lit _=> []
 | .tsl _ _ _ _=> []
 | .el _ _ _ _ _=> []
 | .dead=> []
 | .gone=> []
 | .unkB=> []
def KV.refsAll:List KV->List Nat
 | []=> []
 |v::r=>v.refs++KV.refsAll r
end
def AY:List (Nat×Nat×KV)->List Nat
 | []=> []
 |(_,_,v)::r=>v.refs++AY r
def KRow.refs:KRow->List Nat
 | .cells _ cs=>KV.refsAll cs
 | .ts _ _ _ _=> []
 | .os _ _ hs=>AY hs
def Mo(mem:aH)(b:Nat):List Nat:=
 match fD mem b with
 |some (some x)=>x.row.refs
 |_=> []
def Av(mem:aH):Nat->List Nat->List Nat->List Nat
 |0,_,seen=>seen
 |_,[],seen=>seen
 |n+1,b::todo,seen=>bif eY b seen then Av mem n todo seen else Av mem n (todo++Mo mem b) (seen++ [b])
def Au(mem:aH)(b:Nat):Option Nat:=
 match fD mem b with
 |some (some x)=>some x.gen
 |_=>none
mutual
def KV.ren(f:mS):KV->KV
 | .ptr b g i c=>match f b g with|some q=> .ptr q.1 q.2 i c|none=> .dead
 | .ms b g o n=>match f b g with|some q=> .ms q.1 q.2 o n|none=> .dead
 | .msw b g=>match f b g with|some q=> .msw q.1 q.2|none=> .dead
 | .fn h fi ca=> .fn h (KV.renAll f fi) (KV.renAll f ca)
 | .agg cs=> .agg (KV.renAll f cs)
 | .tup vs=> .tup (KV.renAll f vs)
 | .lit v=> .lit v
 | .tsl β ag T xs=> .tsl β ag T xs
 | .el β ag T x c=> .el β ag T x c
 | .dead=> .dead
 | .gone=> .gone
 | .unkB=> .unkB
def KV.renAll(f:mS):List KV->List KV
 | []=> []
 |v::r=>v.ren f::KV.renAll f r
end
def C5(f:mS):List (Nat×Nat×KV)->List (Nat×Nat×KV)
 | []=> []
 |(i,c,v)::r=>(i,c,v.ren f)::C5 f r
def KRow.ren(f:mS):KRow->KRow
 | .cells e cs=> .cells e (KV.renAll f cs)
 | .ts β ag T xs=> .ts β ag T xs
 | .os T xs hs=> .os T xs (C5 f hs)
def Iw(mem:aH)(b:Nat):Bool:=
 match fD mem b with
 |some (some x)=>lC x.row
 |_=>false
def qD(m:Nat)(keep:Bool)(mem:aH)(ids:List Nat):mS:=λb g=>
 match Au mem b with
 |some h=>bif Nat.beq h g then(match As b ids 0 with|some j=>some (j,iC m keep (Iw mem b) j h)|none=>none)else none
 |none=>none
def sT(m:Nat)(keep:Bool)(f:mS)(mem:aH):Nat->List Nat->aH
 |_,[]=> []
 |j,b::r=>(match fD mem b with
  |some (some x)=>some ⟨iC m keep (lC x.row) j x.gen,x.frz,x.row.ren f⟩
  |_=>none)::sT m keep f mem (j+1) r
def nC(mem:aH)(n:Nat):Nat:=(mem.length+1)*(mem.length+1)+n
def iD:aH->List (Option Bool)
 | []=> []
 |some x::r=>some (lC x.row)::iD r
 |none::r=>none::iD r
def Jk:List (Option Bool)->aH->Bool
 | [],_=>true
 |some k::r,some x::m=>(bif k then lC x.row&&Nat.beq x.gen 0 else !(lC x.row))&&Jk r m
 |none::r,none::m=>Jk r m
 |_,_=>false
def kO:aH->List Nat
 | []=> []
 |some x::r=>x.row.refs++kO r
 |none::r=>kO r
def TS:KV->Option (Nat×Nat)
 | .msw b g=>some (b,g)
 | .ms b g _ _=>some (b,g)
 |_=>none
def OF(m:Nat)(refs:List Nat)(mem:aH)(v:KV):Bool:=
 match TS v with
 |some q=>Nat.ble m q.1&&Nat.beq (dC q.1 refs) 1&&(match fD mem q.1 with
  |some (some x)=>Nat.beq x.gen q.2&&!x.frz&&(match x.row with| .ts β ag T _=>!(CZ β ag T)|_=>false)
  |_=>false)
 |none=>false
def oZ(c:Nat):List (Nat×Nat×KV)->Option (Nat×KV)
 | []=>none
 |(i,c',v)::r=>bif Nat.beq c c' then some (i,v)else oZ c r
def M5{α:Type}:Option α->Bool
 |none=>true
 |some _=>false
def vZ(m:Nat)(refs:List Nat)(mem:aH)(all:List (Nat×Nat×KV)):List (Nat×Nat×KV)->Nat->Option Nat
 | [],_=>none
 |(_,c,v)::r,k=>bif OF m refs mem v&&M5 (oZ c (dB all k))then some k else vZ m refs mem all r (k+1)
def sP(m:Nat)(refs:List Nat)(mem:aH):aH->Nat->Option (Nat×Nat)
 | [],_=>none
 |none::r,b=>sP m refs mem r (b+1)
 |some x::r,b=>match x.row with
  | .os _ _ hs=>(match vZ m refs mem hs hs 0 with
   |some k=>some (b,k)
   |none=>sP m refs mem r (b+1))
  |_=>sP m refs mem r (b+1)
def JH(mem:aH)(v:KV)(k:Nat->KRow->Option R):Option R:=
 match v with
 | .msw b g=>qR mem b g λx=>bif x.frz then none else k b x.row
 | .ms b g o n=>I.guard (Nat.beq o 0) (qR mem b g λx=>bif x.frz then none else
   (match x.row with
   | .ts β ag T xs=>I.guard (Nat.ble n xs.length) (k b (.ts β ag T (xs.take n)))
   |_=>none))
 |_=>none
def FU(mem:aH)(b j:Nat)(k:aH->Option R):Option R:=
 match fD mem b with
 |some (some x)=>(match x.row with
  | .os T xs hs=>(match fD hs j with
   |some h=>JH I mem h.2.2 λb' row=>(match row with
    | .ts β ag' T' ys=>bif !(CZ β ag' T')&&!(Nat.beq b' b)&&M5 (oZ h.2.1 (dB hs j))then
      I.getN xs h.1 λp=>(match fD (cellsOf false T p) h.2.1 with
       |some (.tsl _ ag'' T'' _)=>bif fJ ag'' ag'&&Ty.beq T'' T' then
         gG I mem T (dM (cellsOf false T p) h.2.1 [.tsl false ag' T' ys]) λz _ _=>k (wM none (wM (some ⟨x.gen,x.frz,.os T (xs.set h.1 z) (dB hs j)⟩) mem b) b')else none
       |_=>none)
     else none
    |_=>none)
   |none=>none)
  |_=>none)
 |_=>none
def CT(m:Nat)(vs:List KV):Nat->aH->(aH->Option R)->Option R
 |0,mem,k=>k mem
 |n+1,mem,k=>match sP m (KV.refsAll vs++kO mem) mem mem 0 with
  |none=>k mem
  |some q=>FU I mem q.1 q.2 λmem'=>CT m vs n mem' k
def Ml(mem:aH)(b:Nat):Bool:=
 match fD mem b with
 |some (some _)=>true
 |_=>false
def Hp(m:Nat)(vs:List KV):Nat->aH->aH
 |0,mem=>mem
 |b+1,mem=>Hp m vs b (bif Nat.ble m b&&Ml mem b&&Nat.beq (dC b (KV.refsAll vs++kO mem)) 0 then wM none mem b else mem)
def O8(m:Nat)(vs:List KV)(mem:aH)(k:aH->Option R):Option R:=CT I m vs 64 (Hp m vs mem.length mem) k
def E1(keep:Bool)(old:List (Option Bool))(vs:List KV)(mem0:aH)(k:List KV->aH->Option R):Option R:=
 O8 I old.length vs mem0 λmem=>
 let ids:=Av mem (nC mem (old.length+(KV.refsAll vs).length)) (sF 0 old.length++KV.refsAll vs) []
 bif Jk old mem&&eN ids&&A5 0 old.length ids then k (KV.renAll (qD old.length keep mem ids) vs) (sT old.length keep (qD old.length keep mem ids) mem 0 ids)else none
def KV.frz(m:Nat)(mem:aH):KV->KV
 | .msw b g=>bif Nat.ble m b then
   (match fD mem b with
   |some (some x)=>bif Nat.beq x.gen g then(match x.row with
    | .ts β ag T xs=> .tsl (CZ β ag T) ag T xs
    |_=> .msw b g)else .msw b g
   |_=> .msw b g)
  else .msw b g
 |v=>v
def KV.frzAll(m:Nat)(mem:aH):List KV->List KV
 | []=> []
 |v::r=>v.frz m mem::KV.frzAll m mem r
def AZ(m:Nat)(mem:aH):KV->KV
 | .tup vs=> .tup (KV.frzAll m mem vs)
 | .agg vs=> .agg (KV.frzAll m mem vs)
 |v=>v.frz m mem
mutual
def KV.lent:KV->Bool
 | .tsl β _ _ _=>β
 | .el β _ _ _ _=>β
 | .fn _ fi ca=>KV.lentAny fi||KV.lentAny ca
 | .agg cs=>KV.lentAny cs
 | .tup vs=>KV.lentAny vs
 | .lit _=>false
 | .ptr _ _ _ _=>false
 | .ms _ _ _ _=>false
 | .msw _ _=>false
 | .dead=>false
 | .gone=>true
 | .unkB=>true
def KV.lentAny:List KV->Bool
 | []=>false
 |v::r=>v.lent||KV.lentAny r
end
def AD:List (Nat×Nat×KV)->Bool
 | []=>false
 |(_,_,v)::r=>v.lent||AD r
def zL:aH->Bool
 | []=>false
 |some x::r=>(match x.row with| .cells _ cs=>KV.lentAny cs| .ts β ag T _=>CZ β ag T| .os _ _ hs=>AD hs)||zL r
 |none::r=>zL r
def Es(mem:aH)(b:Nat):Bool:=
 match fD mem b with
 |some (some x)=>kJ x.row
 |_=>false
def Bz(mem:aH):KV->Bool
 | .msw b _=>Es mem b
 | .ms b _ _ _=>Es mem b
 |_=>false
def Q4(mem:aH):KV->Bool
 | .msw b _=>Es mem b
 |_=>false
def H1(mem:aH):KV->Bool
 | .ptr b _ _ _=>Es mem b
 |_=>false
def JE(c:Nat):List (Nat×Nat×KV)->List (Nat×Nat×KV)
 | []=> []
 |(i,c',v)::r=>bif Nat.beq c c' then r else(i,c',v)::JE c r
abbrev dL:=List (Nat×Nat×KV)
def E6(tk:Bool)(i c:Nat)(v:KV)(hs:dL)(nb:Nat)(k:KV->dL->List KRow->Option R):Option R:=
 match oZ c hs with
 |some h=>I.guard (Nat.beq i h.1) (k h.2 hs [])
 |none=>match v with
  | .lit u=>k (.lit u) hs []
  | .tsl _ ag T ys=>bif tk then k (.msw nb 0) ((i,c,.msw nb 0)::hs) [.ts false ag T ys]else none
  |_=>none
def Hm(tk:Bool)(i:Nat):List KV->Nat->dL->Nat->(List KV->dL->List KRow->Option R)->Option R
 | [],_,hs,_,k=>k [] hs []
 |v::vs,c,hs,nb,k=>E6 I tk i c v hs nb λa hs1 rows=>Hm tk i vs (c+1) hs1 (nb+rows.length) λas hs2 rows2=>k (a::as) hs2 (rows++rows2)
def vF:List KRow->aH
 | []=> []
 |r::rs=>some ⟨0,false,r⟩::vF rs
def Pv(b:Nat)(bx:dW)(T:Ty)(xs:List (den T))(v:KV)(hs:dL):List KRow->bK
 | []=>⟨v,[b],[],[]⟩
 |r::rs=>⟨v,[b],[(b,⟨bx.gen,bx.frz,.os T xs hs⟩)],vF (r::rs)⟩
def Pa(tk:Bool)(t:TypeId)(mem:aH)(a:KV)(k:bK->Option R):Option R:=
 match tab t with
 |some ti=>(match a with
  | .ptr b g i c=>yL mem b g λbx=>(match bx.row with
   | .os T xs hs=>(match ti.ty with
    |some T'=>I.getN xs i λx=>bif a9 (dO T') (((cellsOf true T x).drop c).take ti.n)then
      Hm I tk i (((cellsOf true T x).drop c).take ti.n) c hs mem.length λvs hs' rows=>
       bif ti.ag then k (Pv b bx T xs (.agg vs) hs' rows)else(match vs with| [v]=>k (Pv b bx T xs v hs' rows)|_=>none)
     else none
    |none=>none)
   |_=>none)
  |_=>none)
 |none=>none
def IN(i c:Nat)(hs:dL)(k:dL->Option R):Option R:=
 match oZ c hs with
 |none=>k hs
 |some h=>bif M5 (oZ c (JE c hs))then I.guard (Nat.beq i h.1) (k (JE c hs))else none
def Mw(t:TypeId)(mem:aH)(a x:KV)(k:bK->Option R):Option R:=
 match tab t with
 |some ti=>(match a with
  | .ptr b g i c=>yL mem b g λbx=>(match bx.row with
   | .os T xs hs=>bif Nat.beq ti.n 1&&!bx.frz&&TY x then I.getN xs i λp=>(match fD (cellsOf false T p) c with
     |some (.lit u)=>(match x with
      | .lit v=>bif HE u v&&M5 (oZ c hs)then gG I mem T (dM (cellsOf false T p) c [.lit v]) λz _ _=>k ⟨.lit undef,[b],[(b,⟨bx.gen,bx.frz,.os T (xs.set i z) hs⟩)],[]⟩else none
      |_=>none)
     |some (.tsl _ ag' T' _)=>(match x with
      | .lit (.slice none 0 0)=>IN I i c hs λhs'=>gG I mem T (dM (cellsOf false T p) c [.tsl false ag' T' []]) λz _ _=>k ⟨.lit undef,[b],[(b,⟨bx.gen,bx.frz,.os T (xs.set i z) hs'⟩)],[]⟩
      | .msw b2 g2=>IN I i c hs λhs'=>k ⟨.lit undef,[b],[(b,⟨bx.gen,bx.frz,.os T xs ((i,c,.msw b2 g2)::hs')⟩)],[]⟩
      | .ms b2 g2 o2 n2=>IN I i c hs λhs'=>k ⟨.lit undef,[b],[(b,⟨bx.gen,bx.frz,.os T xs ((i,c,.ms b2 g2 o2 n2)::hs')⟩)],[]⟩
      |_=>none)
     |_=>none)else none
   |_=>none)
  |_=>none)
 |none=>none
def Un(t:TypeId)(mem:aH)(x:KV)(k:bK->Option R):Option R:=
 match tab t with
 |some ti=>(match ti.tk,x with
  | .sl _,.msw b g=>yL mem b g λbx=>(match bx.row with
   | .os _ xs _=>k ⟨.lit (.int .i64 (aC xs)),[b],[],[]⟩
   |_=>none)
  |_,_=>none)
 |none=>none
def Ls(t:TypeId)(mem:aH)(x:KV)(i:Int)(k:bK->Option R):Option R:=
 x8 tab t λet te=>
  match x with
  | .ms b g o n=>yL mem b g λbx=>bif Nat.beq te.n (sR bx.row)then I.guard (decide (0≤i)&&decide (i<(n:Int))) (k ⟨.ptr b g (o+i.toNat) 0,[b],[],[]⟩)else none
  | .msw b g=>yL mem b g λbx=>bif Nat.beq te.n (sR bx.row)then I.guard (decide (0≤i)&&decide (i<(gD bx.row:Int))) (k ⟨.ptr b g i.toNat 0,[b],[],[]⟩)else none
  |_=>none
def LQ(t:TypeId)(mem:aH)(x:KV)(lo hi mx:Option Int)(k:bK->Option R):Option R:=
 x8 tab t λet te=>
  match x with
  | .ms b g o n=>yL mem b g λbx=>bif Nat.beq te.n (sR bx.row)then n7 I n lo hi mx λl h=>k ⟨.ms b g (o+l) (h-l),[b],[],[]⟩else none
  | .msw b g=>yL mem b g λbx=>bif Nat.beq te.n (sR bx.row)then n7 I (gD bx.row) lo hi mx λl h=>k ⟨.ms b g l (h-l),[b],[],[]⟩else none
  |_=>none
def Qg(T:Ty)(v:KV)(j c:Nat):Option (KV×dL):=
 match T,v with
 | .int k,.lit (.int k' x)=>bif jS k k' then some (.lit (.int k' x),[])else none
 | .bool,.lit (.bool b)=>some (.lit (.bool b),[])
 | .str,.lit (.string s)=>some (.lit (.string s),[])
 | .sl ag T,.lit (.slice none 0 0)=>some (.tsl false ag T [],[])
 | .sl ag T,.msw b g=>some (.tsl false ag T [],[(j,c,.msw b g)])
 | .sl ag T,.ms b g o n=>some (.tsl false ag T [],[(j,c,.ms b g o n)])
 |_,_=>none
def Ub:List Ty->List KV->Nat->Nat->Option (List KV×dL)
 | [],[],_,_=>some ([],[])
 |T::Ts,v::vs,j,c=>(match Qg T v j c with
  |some a=>(match Ub Ts vs j (c+1)with
   |some q=>some (a.1::q.1,a.2++q.2)
   |none=>none)
  |none=>none)
 |_,_,_,_=>none
def Jz(T:Ty):List (List KV)->Nat->(List (den T)->dL->Option R)->Option R
 | [],_,k=>k [] []
 |cs::r,j,k=>(match Ub (dO T) cs j 0 with
  |some a=>gG I [] T a.1 λx _ _=>Jz T r (j+1) λxs hs=>k (x::xs) (a.2++hs)
  |none=>none)
def zV(n:Nat):dL->Option R->Option R
 | [],k=>k
 |h::r,k=>I.guard (Nat.blt h.1 n) (zV n r k)
def JM(own:Bool)(t tx:TypeId)(mem:aH)(rs:Nat)(x y:KV)(k:bK->Option R):Option R:=
 x8 tab t λet te=>MY I tab et mem y λyr yrd=>
 match yr with
 | .cells e cs=>(match te.ty with
  |some T=>bif Nat.beq te.n e&&I1 tab tx y&&Nat.ble te.bytes 4096&&Nat.ble 1 te.n&&Nat.beq te.zero.length te.n&&w5 cs&&fJ te.ag (gF T)then
   (match x with
   | .lit (.slice none 0 0)=>bif own then Jz I T (chunks te.n (aY te.n cs.length) cs) 0 λzs hs=>
     I.guard (Nat.ble 1 zs.length&&Nat.ble zs.length bU) (k ⟨.msw rs 0,yrd,[(rs,⟨0,false,.os T zs hs⟩)],[]⟩)else none
   | .msw b g=>yL mem b g λbx=>(match bx.row with
    | .os T' xs hs=>Jz I T (chunks te.n (aY te.n cs.length) cs) xs.length λzs hs'=>(match vB T T' zs with
     |some ys=>bif !bx.frz&&Ty.beq T T' then zV I xs.length hs (I.guard (Nat.ble (xs++ys).length bU) (k ⟨.msw b (g+1),b::yrd,[(b,⟨g+1,false,.os T' (xs++ys) (hs++hs')⟩)],[]⟩))else none
     |none=>none)
    |_=>none)
   | .ms b g o n=>I.guard (Nat.beq o 0) (yL mem b g λbx=>(match bx.row with
    | .os T' xs hs=>Jz I T (chunks te.n (aY te.n cs.length) cs) n λzs hs'=>(match vB T T' zs with
     |some ys=>bif !bx.frz&&Ty.beq T T' then I.guard (Nat.ble n xs.length) (zV I n hs (I.guard (Nat.ble (xs.take n++ys).length bU) (k ⟨.msw b (g+1),b::yrd,[(b,⟨g+1,false,.os T' (xs.take n++ys) (hs++hs')⟩)],[]⟩)))else none
     |none=>none)
    |_=>none))
   |_=>none)
   else none
  |none=>none)
 |_=>none
end
end
end Go.Ab
