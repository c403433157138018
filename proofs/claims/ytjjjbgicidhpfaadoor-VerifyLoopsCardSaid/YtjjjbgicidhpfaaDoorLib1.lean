/- The evaluator. -/
import Derived.Orders
import Derived.Laws.Sem
import Derived.WalkKit
import Derived.Deep.AppendSrc
set_option linter.unusedVariables false
set_option linter.unusedSectionVars false
set_option linter.unusedSimpArgs false
section
namespace Go.Ab
theorem ya:type_of% @Option.some.inj:= @Option.some.inj
theorem yb:type_of% @Bool.and_eq_true:= @Bool.and_eq_true
theorem yc:type_of% @Option.map_eq_some_iff:= @Option.map_eq_some_iff
theorem yd:type_of% @List.getElem?_eq_some_iff:= @List.getElem?_eq_some_iff
theorem ye:type_of% @Option.bind_some:= @Option.bind_some
theorem yf:type_of% @List.getElem?_eq_getElem:= @List.getElem?_eq_getElem
theorem yg:type_of% @List.mem_cons_of_mem:= @List.mem_cons_of_mem
theorem yh:type_of% @Option.map_some:= @Option.map_some
theorem yi:type_of% @List.getD_eq_getElem?_getD:= @List.getD_eq_getElem?_getD
theorem yj:type_of% @cond_false:= @cond_false
theorem yk:type_of% @Array.getD_eq_getD_getElem?:= @Array.getD_eq_getD_getElem?
theorem yl:type_of% @cond_true:= @cond_true
theorem ym:type_of% @List.mem_cons_self:= @List.mem_cons_self
theorem yn:type_of% @List.getElem?_append_left:= @List.getElem?_append_left
theorem yo:type_of% @List.eq_nil_of_length_eq_zero:= @List.eq_nil_of_length_eq_zero
theorem yp:type_of% @List.getElem?_set_ne:= @List.getElem?_set_ne
theorem yq:type_of% @Bool.not_eq_true':= @Bool.not_eq_true'
theorem yt:type_of% @List.mem_of_getElem?:= @List.mem_of_getElem?
theorem yu:type_of% @List.getElem?_append_right:= @List.getElem?_append_right
theorem yw:type_of% @List.getElem?_set_self:= @List.getElem?_set_self
theorem yx:type_of% @List.cons.inj:= @List.cons.inj
theorem yy:type_of% @Nat.zero_add:= @Nat.zero_add
theorem yz:type_of% @List.getElem?_drop:= @List.getElem?_drop
theorem ya1:type_of% @Nat.le_refl:= @Nat.le_refl
theorem yb1:type_of% @List.getElem?_eq_none:= @List.getElem?_eq_none
theorem yc1:type_of% @List.getElem?_map:= @List.getElem?_map
theorem yd1:type_of% @List.getElem?_cons_succ:= @List.getElem?_cons_succ
theorem ye1:type_of% @List.length_map:= @List.length_map
theorem yf1:type_of% @List.getElem?_take_of_lt:= @List.getElem?_take_of_lt
theorem yg1:type_of% @List.append_nil:= @List.append_nil
theorem yh1:type_of% @Array.getElem?_toList:= @Array.getElem?_toList
theorem yi1:type_of% @List.getElem?_take:= @List.getElem?_take
theorem yj1:type_of% @Nat.add_mul:= @Nat.add_mul
theorem yk1:type_of% @Nat.add_zero:= @Nat.add_zero
theorem yl1:type_of% @List.mem_cons:= @List.mem_cons
theorem ym1:type_of% @List.length_append:= @List.length_append
theorem yn1:type_of% @List.mem_append:= @List.mem_append
theorem yo1:type_of% @Array.getElem?_eq_getElem:= @Array.getElem?_eq_getElem
theorem yp1:type_of% @Option.bind_eq_some_iff:= @Option.bind_eq_some_iff
theorem yq1:type_of% @List.mem_append_left:= @List.mem_append_left
theorem yr1:type_of% @List.mem_append_right:= @List.mem_append_right
theorem ys1:type_of% @Nat.add_assoc:= @Nat.add_assoc
theorem yt1:type_of% @List.map_cons:= @List.map_cons
theorem yu1:type_of% @Bool.or_eq_true:= @Bool.or_eq_true
theorem yw1:type_of% @List.getElem_of_mem:= @List.getElem_of_mem
theorem yx1:type_of% @Array.length_toList:= @Array.length_toList
theorem yy1:type_of% @Nat.lt_of_lt_of_le:= @Nat.lt_of_lt_of_le
theorem yz1:type_of% @Nat.mul_le_mul_right:= @Nat.mul_le_mul_right
theorem ya2:type_of% @List.getElem?_replicate:= @List.getElem?_replicate
theorem yb2:type_of% @List.mem_singleton:= @List.mem_singleton
theorem yc2:type_of% @Nat.le_trans:= @Nat.le_trans
theorem yd2:type_of% @Nat.lt_or_ge:= @Nat.lt_or_ge
theorem ye2:type_of% @List.length_eq_one_iff:= @List.length_eq_one_iff
theorem yf2:type_of% @Array.toArray_toList:= @Array.toArray_toList
theorem yg2:type_of% @List.mem_replicate:= @List.mem_replicate
theorem yh2:type_of% @Nat.mul_comm:= @Nat.mul_comm
theorem yi2:type_of% @List.all_eq_true:= @List.all_eq_true
theorem yj2:type_of% @Nat.lt_succ_self:= @Nat.lt_succ_self
theorem yk2:type_of% @List.mem_or_eq_of_mem_set:= @List.mem_or_eq_of_mem_set
theorem yl2:type_of% @Bool.false_eq_true:= @Bool.false_eq_true
theorem ym2:type_of% @List.length_cons:= @List.length_cons
theorem yn2:type_of% @Array.getElem?_eq_some_iff:= @Array.getElem?_eq_some_iff
theorem yo2:type_of% @List.getElem?_cons_zero:= @List.getElem?_cons_zero
theorem yp2:type_of% @List.getElem_mem:= @List.getElem_mem
theorem yq2:type_of% @List.mem_map:= @List.mem_map
theorem yr2:type_of% @Array.getElem?_append_left:= @Array.getElem?_append_left
theorem yt2:type_of% @List.cons_append:= @List.cons_append
theorem yu2:type_of% @List.mem_of_mem_take:= @List.mem_of_mem_take
theorem yv2:type_of% @List.map_take:= @List.map_take
theorem yw2:type_of% @List.length_take:= @List.length_take
theorem yx2:type_of% @Nat.zero_mul:= @Nat.zero_mul
theorem yy2:type_of% @Nat.mul_one:= @Nat.mul_one
theorem yz2:type_of% @List.length_set:= @List.length_set
theorem ya3:type_of% @Array.getElem?_replicate:= @Array.getElem?_replicate
theorem yb3:type_of% @Bool.true_and:= @Bool.true_and
theorem yc3:type_of% @Nat.add_sub_cancel_left:= @Nat.add_sub_cancel_left
theorem yd3:type_of% @Bool.and_true:= @Bool.and_true
theorem ye3:type_of% @List.all_cons:= @List.all_cons
theorem yf3:type_of% @Nat.beq_refl:= @Nat.beq_refl
theorem yg3:type_of% @List.map_append:= @List.map_append
theorem yh3:type_of% @List.nil_append:= @List.nil_append
theorem yi3:type_of% @List.map_nil:= @List.map_nil
theorem yj3:type_of% @Int.toNat_natCast:= @Int.toNat_natCast
theorem yk3:type_of% @List.map_drop:= @List.map_drop
theorem yl3:type_of% @Bool.and_self:= @Bool.and_self
class b3 where
 tab:Nat->Option (Int×Int)
noncomputable section
def dW{α:Type}(l:List α):Nat->Option α:=List.rec (λ_=>none) (λa _ ih n=>Nat.rec (some a) (λm _=>ih m) n) l
def pE{α:Type}(v:α)(l:List α):Nat->List α:=List.rec (λ_=> []) (λa r ih n=>Nat.rec (v::r) (λm _=>a::ih m) n) l
theorem a7{α:Type}: ∀(l:List α) (n:Nat),dW l n=l[n]?
 | [],n=>by simp[dW]
 |a::r,0=>rfl
 |a::r,n+1=>by rw[yd1,<-a7 r n];rfl
theorem dE{α:Type}(v:α): ∀(l:List α) (n:Nat),pE v l n=l.set n v
 | [],n=>by simp[pE]
 |a::r,0=>rfl
 |a::r,n+1=>by rw[List.set_cons_succ,<-dE v r n];rfl
inductive PV where
 |lit (v:Value)
 |ints (k:IntKind) (xs:List Int)
 |sl (e:Nat) (xs:List PV)
 |agg (cs:List PV)
 deriving Inhabited
inductive AV where
 |lit (v:Value)
 |imm (β:Bool) (p:PV)
 |ptr (b g i c:Nat)
 |ms (b g o n:Nat)
 |msw (b g:Nat)
 |el (β:Bool) (p:PV) (c:Nat)
 |fn (f:Fn) (first cap:List AV)
 |agg (cs:List AV)
 |tup (vs:List AV)
 deriving Inhabited
inductive aX where
 |ints (k:IntKind) (xs:List Int)
 |pvs (β:Bool) (e:Nat) (xs:List PV)
 |cells (e:Nat) (cs:List AV)
 |own (e:Nat) (xs:List PV) (hs:List (Nat×Nat×AV))
 deriving Inhabited
structure bG where
 gen:Nat
 frz:Bool
 row:aX
 deriving Inhabited
abbrev aK:=List (Option bG)
structure St where
 tmps:List AV
 mem:aK
structure kQ where
 live:List (Nat×List Nat):= []
 raw:List (Nat×Nat):= []
 boxed:List (Nat×Nat):= []
 vars:List (Nat×Nat):= []
 hint:List (Nat×Nat×Int):= []
 own:List (Nat×Nat):= []
 keep:List Nat:= []
 tidy:List (Nat×List Nat×List (Operand×Nat×Operand×Nat)):= []
def cP{α:Type}(n:Nat):List (Nat×α)->Option α
 | []=>none
 |(m,x)::r=>bif Nat.beq m n then some x else cP n r
def bD(a b:Nat):List (Nat×Nat)->Bool
 | []=>false
 |(m,x)::r=>(Nat.beq m a&&Nat.beq x b)||bD a b r
def dL(n:Nat):List Nat->Bool
 | []=>false
 |m::r=>Nat.beq m n||dL n r
def guardB{α:Type}(c:Bool)(x:Option α):Option α:=bif c then x else none
def aV{α:Type}(xs:List α)(i:Int):Option α:=bif decide (0≤i)then xs[i.toNat]? else none
def fY(a b:IntKind):Bool:=
 match a,b with
 | .i8,.i8| .i16,.i16| .i32,.i32| .i64,.i64| .u8,.u8| .u16,.u16| .u32,.u32| .u64,.u64=>true
 |_,_=>false
def PV.int?(k:IntKind):PV->Option Int
 | .lit (.int k' n)=>bif fY k k' then some n else none
 |_=>none
def PV.bool?:PV->Option Bool
 | .lit (.bool b)=>some b
 |_=>none
def PV.str?:PV->Option ByteArray
 | .lit (.string s)=>some s
 |_=>none
def PV.ints?(k:IntKind):PV->Option (List Int)
 | .ints k' xs=>bif fY k k' then some xs else none
 |_=>none
def PV.sl?(e:Nat):PV->Option (List PV)
 | .sl e' xs=>bif Nat.beq e e' then some xs else none
 |_=>none
def PV.cells:PV->List PV
 | .agg cs=>cs
 |p=> [p]
inductive LK where
 |int (k:IntKind)|bool|str|ints (k:IntKind)|sl (t:TypeId) (e:Nat)
section
variable (P:Program)
def gW(t:TypeId):Option Nat:=(P.info? t).map (·.size)
def iQ(t:TypeId):Option Nat:=(P.info? t).map (·.bytes)
def intKind?(t:TypeId):Option IntKind:=
 match P.underlying t with
 |some (.int k)=>some k
 |_=>none
def elemOf?(t:TypeId):Option TypeId:=
 match P.underlying t with
 |some (.slice e)=>some e
 |_=>none
def isAgg?(t:TypeId):Option Bool:=
 match P.underlying t with
 |some (.struct _)=>some true
 |some (.array _ _)=>some true
 |some _=>some false
 |none=>none
def leaf?(t:TypeId):Option LK:=
 match P.underlying t with
 |some (.int k)=>some (.int k)
 |some .bool=>some .bool
 |some .string=>some .str
 |some (.slice e)=>
  match intKind? P e with
  |some k=>some (.ints k)
  |none=>(gW P e).map (.sl e)
 |_=>none
def JB(leaves:TypeId->Option (List LK)):List Field->Option (List LK)
 | []=>some []
 |f::r=>(leaves f.type).bind λa=>(JB leaves r).map (a++ ·)
def leaves?:Nat->TypeId->Option (List LK)
 |0,_=>none
 |n+1,t=>
  match P.underlying t with
  |some (.struct fs)=>JB (leaves? n) fs.toList
  |_=>(leaf? P t).map λl=> [l]
def fC(β:Bool)(l:LK)(q:PV):Option AV:=
 match l with
 | .int k=>(q.int? k).bind λx=>some (.lit (.int k x))
 | .bool=>q.bool?.bind λx=>some (.lit (.bool x))
 | .str=>q.str?.bind λx=>some (.lit (.string x))
 | .ints k=>(q.ints? k).bind λx=>some (.imm β (.ints k x))
 | .sl _ e=>(q.sl? e).bind λx=>some (.imm β (.sl e x))
def fT(β:Bool)(cs:List PV):List LK->Nat->Option (List AV)
 | [],_=>some []
 |l::r,c=>(cs[c]?).bind λq=>(fC β l q).bind λa=>(fT β cs r (c+1)).bind λas=>some (a::as)
def Lu(β:Bool)(t:TypeId)(p:PV)(c:Nat):Option AV:=
 match isAgg? P t with
 |some true=>(leaves? P 8 t).bind λls=>(gW P t).bind λn=>guardB (Nat.beq n ls.length) ((fT β p.cells ls c).bind λas=>some (.agg as))
 |some false=>(leaf? P t).bind λl=>(p.cells[c]?).bind λq=>fC β l q
 |none=>none
def kI:Value->Bool
 | .agg _=>false
 |_=>true
def G5:List Value->Option (List AV)
 | []=>some []
 |v::r=>guardB (kI v) ((G5 r).map (.lit v:: ·))
def vS:Value->Option AV
 | .agg cs=>(G5 cs.toList).map .agg
 |v=>some (.lit v)
def zero?(t:TypeId):Option AV:=((P.info? t).bind (·.zero)).bind vS
def AV.dead:AV:= .imm false (.agg [])
def AV.unkB:AV:= .imm true (.lit (.bool false))
open Classical in
def amb{α:Type}(a b:Option α):Option α:=if a=b then a else none
def AV.goneV:AV:= .imm true (.agg [])
def fB:AV->Bool
 | .imm true (.agg _)=>true
 |_=>false
def AV.cells:AV->List AV
 | .agg cs=>cs
 |v=> [v]
inductive aL where
 |ints (k:IntKind) (xs:List Int)
 |pvs (β:Bool) (e:Nat) (xs:List PV)
 |avs (e:Nat) (cs:List AV)
def aP(e:Nat)(n:Nat):Nat:=bif Nat.beq e 0 then 0 else bif Nat.beq e 1 then n else n/e
def aL.len:aL->Nat
 | .ints _ xs=>xs.length
 | .pvs _ _ xs=>xs.length
 | .avs e cs=>aP e cs.length
def aL.imm?:aL->Option AV
 | .ints k xs=>some (.imm false (.ints k xs))
 | .pvs β e xs=>some (.imm β (.sl e xs))
 | .avs _ _=>none
def aL.row:aL->aX
 | .ints k xs=> .ints k xs
 | .pvs β e xs=> .pvs β e xs
 | .avs e cs=> .cells e cs
def eM(k:IntKind):List AV->Option (List Int)
 | []=>some []
 | .lit (.int k' x)::r=>bif fY k k' then(eM k r).map (x:: ·)else none
 |_::_=>none
def aX.len:aX->Nat
 | .ints _ xs=>xs.length
 | .pvs _ _ xs=>xs.length
 | .cells e cs=>aP e cs.length
 | .own _ xs _=>xs.length
def aX.e:aX->Nat
 | .ints _ _=>1
 | .pvs _ e _=>e
 | .cells e _=>e
 | .own e _ _=>e
def aL.e:aL->Nat
 | .ints _ _=>1
 | .pvs _ e _=>e
 | .avs e _=>e
def aX.all:aX->aL
 | .ints k xs=> .ints k xs
 | .pvs β e xs=> .pvs β e xs
 | .cells e cs=> .avs e cs
 | .own e xs _=> .pvs true e xs
def aX.sub(o n:Nat):aX->Option aL
 | .ints k xs=>guardB (Nat.ble (o+n) xs.length) (some (.ints k ((xs.drop o).take n)))
 | .pvs β e xs=>guardB (Nat.ble (o+n) xs.length) (some (.pvs β e ((xs.drop o).take n)))
 | .cells e cs=>guardB (Nat.ble ((o+n)*e) cs.length) (some (.avs e ((cs.drop (o*e)).take (n*e))))
 | .own _ _ _=>none
def aX.isInts:aX->Bool
 | .ints _ _=>true
 |_=>false
def aX.isOwn:aX->Bool
 | .own _ _ _=>true
 |_=>false
def box?(mem:aK)(b g:Nat):Option bG:=
 match mem[b]? with
 |some (some x)=>bif Nat.beq x.gen g&&!x.row.isOwn then some x else none
 |_=>none
def boxO?(mem:aK)(b g:Nat):Option bG:=
 match mem[b]? with
 |some (some x)=>bif Nat.beq x.gen g&&x.row.isOwn then some x else none
 |_=>none
def eO(s:ByteArray):List Int:=s.data.toList.map λb=>(b.toNat:Int)
def oJ(xs:List Int):ByteArray:=⟨(xs.map λn=>UInt8.ofNat n.toNat).toArray⟩
def wO:LK->Bool
 | .int _=>true
 | .bool=>true
 | .str=>true
 |_=>false
def Kk(et:TypeId):Bool:=
 match leaves? P 8 et with
 |some ls=>ls.all wO
 |none=>false
def Ln:PV->Bool
 | .lit _=>true
 |_=>false
def Aw(p:PV):Bool:=p.cells.all Ln
def view(et:TypeId)(mem:aK):AV->Option (aL×List Nat)
 | .imm _ (.ints k xs)=>some (.ints k xs,[])
 | .imm β (.sl e xs)=>some (.pvs (bif Kk P et&&xs.all Aw then false else β) e xs,[])
 | .ms b g o n=>(box? mem b g).bind λx=>(x.row.sub o n).map λv=>(v,[b])
 | .msw b g=>(box? mem b g).bind λx=>some (x.row.all,[b])
 | .lit (.string s)=>some (.ints .u8 (eO s),[])
 | .lit (.slice none 0 0)=>
  match intKind? P et with
  |some k=>some (.ints k [],[])
  |none=>(gW P et).map λe=>(.pvs false e [],[])
 |_=>none
def lenOf(t:TypeId)(mem:aK)(x:AV):Option (Nat×List Nat):=
 match P.underlying t with
 |some .string=>
  match x with
  | .lit (.string s)=>some (s.size,[])
  |_=>none
 |some (.slice _)=>
  match x with
  | .imm _ (.ints _ xs)=>some (xs.length,[])
  | .imm _ (.sl _ xs)=>some (xs.length,[])
  | .ms b g o n=>some (n,[])
  | .msw b g=>(box? mem b g).map λx=>(x.row.len,[b])
  | .lit (.slice none 0 0)=>some (0,[])
  |_=>none
 |_=>none
def GJ:AV->Bool
 | .lit v=>v.oneCell'
 | .agg _=>false
 | .tup _=>false
 |_=>true
def iD:List AV->Bool
 | []=>true
 |v::r=>GJ v&&iD r
def chunks{α:Type}(e:Nat):Nat->List α->List (List α)
 |0,_=> []
 |n+1,cs=>cs.take e::chunks e n (cs.drop e)
def qZ(t:TypeId)(cs:List PV):Option PV:=
 match isAgg? P t with
 |some true=>some (.agg cs)
 |some false=>(match cs with| [c]=>some c|_=>none)
 |none=>none
def fG{α β:Type}(f:α->Option (Bool×β×List Nat)):List α->Option (Bool×List β×List Nat)
 | []=>some (false,[],[])
 |v::r=>(f v).bind λa=>(fG f r).bind λq=>some (a.1||q.1,a.2.1::q.2.1,a.2.2++q.2.2)
def bY{α β γ:Type}(f:γ->α->Option (Bool×β×List Nat)):List γ->List α->Option (Bool×List β×List Nat)
 | [],[]=>some (false,[],[])
 |l::ls,v::r=>(f l v).bind λa=>(bY f ls r).bind λq=>some (a.1||q.1,a.2.1::q.2.1,a.2.2++q.2.2)
 |_,_=>none
def bA(mem:aK):Nat->LK->AV->Option (Bool×PV×List Nat)
 |0,_,_=>none
 |n+1,l,v=>
  match l,v with
  | .int k,.lit (.int k' x)=>guardB (fY k k') (some (false,.lit (.int k' x),[]))
  | .bool,.lit (.bool b)=>some (false,.lit (.bool b),[])
  | .str,.lit (.string s)=>some (false,.lit (.string s),[])
  | .ints k,.imm β (.ints k' xs)=>guardB (fY k k') (some (β,.ints k' xs,[]))
  | .ints k,.lit (.slice none 0 0)=>some (false,.ints k [],[])
  | .ints k,.msw b g=>(box? mem b g).bind λx=>treeInts k b x.row.all
  | .ints k,.ms b g o m=>(box? mem b g).bind λx=>(x.row.sub o m).bind λw=>treeInts k b w
  | .sl _ e,.imm β (.sl e' xs)=>guardB (Nat.beq e e') (some (β,.sl e' xs,[]))
  | .sl _ e,.lit (.slice none 0 0)=>some (false,.sl e [],[])
  | .sl t e,.msw b g=>(box? mem b g).bind λx=>treeSl (bA mem n) t e b x.row.all
  | .sl t e,.ms b g o m=>(box? mem b g).bind λx=>(x.row.sub o m).bind λw=>treeSl (bA mem n) t e b w
  |_,_=>none
 where
 treeInts (k:IntKind) (b:Nat) (w:aL):Option (Bool×PV×List Nat):=
  match w with
  | .ints k' xs=>guardB (fY k k') (some (false,.ints k' xs,[b]))
  | .avs e cs=>guardB (Nat.beq e 1) ((eM k cs).map λxs=>(false,.ints k xs,[b]))
  |_=>none
 treeSl (f:LK->AV->Option (Bool×PV×List Nat)) (t:TypeId) (e b:Nat) (w:aL):Option (Bool×PV×List Nat):=
  match w with
  | .pvs β e' xs=>guardB (Nat.beq e e') (some (β,.sl e' xs,[b]))
  | .avs e' cs=>guardB (Nat.beq e e'&&Nat.ble 1 e) ((leaves? P 8 t).bind λls=>
    (fG (fun vs => (bY f ls vs).bind fun q => (qZ P t q.2.1).map fun p => (q.1, p, q.2.2)) (chunks e (aP e cs.length) cs)).map fun q => (q.1, .sl e q.2.1, b :: q.2.2))
  |_=>none
def FO:Nat:=6
def nA(mem:aK)(v:AV):Option (Nat×Nat×List PV):=
 match v with
 | .msw b g=>(boxO? mem b g).bind λx=>match x.row with
  | .own e xs []=>guardB (!x.frz) (some (b,e,xs))
  |_=>none
 | .ms b g 0 n=>(boxO? mem b g).bind λx=>match x.row with
  | .own e xs []=>guardB (!x.frz&&Nat.ble n xs.length) (some (b,e,xs.take n))
  |_=>none
 |_=>none
def iI(mem:aK)(l:LK)(v:AV):Option (Bool×PV×List Nat):=
 match nA mem v with
 |some q=>match l with
  | .sl _ e=>guardB (Nat.beq e q.2.1) (some (false,.sl e q.2.2,[q.1]))
  |_=>none
 |none=>bA P mem FO l v
def qH(mem:aK)(t:TypeId)(v:AV):Option (Bool×PV×List Nat):=
 (leaves? P 8 t).bind λls=>(bY (iI P mem) ls v.cells).bind λr=>(qZ P t r.2.1).map λp=>(r.1,p,r.2.2)
def aX.shut:aX->aX
 | .own e xs _=> .pvs false e xs
 |r=>r
def aX.okShut:aX->Bool
 | .own _ _ (_::_)=>false
 |_=>true
def bV(mem:aK):List Nat->List (Nat×bG)
 | []=> []
 |b::r=>match mem[b]? with
  |some (some x)=>bif x.row.okShut then(b,{x with frz:=true,row:=x.row.shut})::bV mem r else bV mem r
  |_=>bV mem r
def fU:List AV->List AV
 | []=> []
 |v::r=>v.cells++fU r
def eX:List Nat->Bool
 | []=>true
 |_=>false
def lF(e:Nat):List AV->Bool
 | []=>true
 |v::r=>Nat.beq v.cells.length e&&lF e r
def mE(vars:Bool)(mem:aK)(t:TypeId)(vs:List AV):Option (aL×List Nat):=
 match intKind? P t with
 |some k=>(eM k vs).map λxs=>(.ints k xs,[])
 |none=>(gW P t).bind λe=>
  bif vars then guardB (lF e vs&&Nat.ble 1 e&&iD (fU vs)) (some (.avs e (fU vs),[]))
  else(fG (qH P mem t) vs).map λr=>(.pvs r.1 e r.2.1,r.2.2)
def Fr(t:TypeId)(β:Bool)(e:Nat):List PV->Option (List AV)
 | []=>some []
 |p::r=>(Lu P β t p 0).bind λv=>guardB (Nat.beq v.cells.length e) ((Fr t β e r).map (v.cells++ ·))
def aL.toAvs(t:TypeId):aL->Option (List AV)
 | .ints k xs=>some (xs.map λx=> .lit (.int k x))
 | .pvs β e xs=>Fr P t β e xs
 | .avs e cs=>some cs
structure cU where
 v:AV
 rd:List Nat:= []
 wr:List (Nat×bG):= []
 push:aK:= []
abbrev bM:=FuncId->List AV->aK->Option (AV×aK)
def aM(mem:aK):List (Nat×bG)->aK
 | []=>mem
 |(b,x)::r=>aM (mem.set b (some x)) r
def cU.apply(o:cU)(mem:aK):aK:=aM mem o.wr++o.push
def pM(op:BinOp)(x y:Value):Option Value:=
 match x,y with
 | .int k a,.int k' b=>
  match op with
  | .shl=>guardB (decide (0≤b)) (some (.int k (k.wrap (a*2 ^ (min b.toNat k.bits)))))
  | .shr=>guardB (decide (0≤b)) (some (.int k (a.fdiv (2 ^ (min b.toNat k.bits)))))
  | .add=>guardB (fY k k') (some (.int k (k.wrap (a+b))))
  | .sub=>guardB (fY k k') (some (.int k (k.wrap (a-b))))
  | .mul=>guardB (fY k k') (some (.int k (k.wrap (a*b))))
  | .quo=>guardB (fY k k') (guardB (!(b==0)) (some (.int k (k.wrap (a.tdiv b)))))
  | .rem=>guardB (fY k k') (guardB (!(b==0)) (some (.int k (a.tmod b))))
  | .and=>guardB (fY k k') (some (.int k (k.wrap (BitVec.ofInt k.bits a &&& BitVec.ofInt k.bits b).toNat)))
  | .or=>guardB (fY k k') (some (.int k (k.wrap (BitVec.ofInt k.bits a ||| BitVec.ofInt k.bits b).toNat)))
  | .xor=>guardB (fY k k') (some (.int k (k.wrap (BitVec.ofInt k.bits a ^^^ BitVec.ofInt k.bits b).toNat)))
  | .andNot=>guardB (fY k k') (some (.int k (k.wrap (BitVec.ofInt k.bits a &&& ~~~BitVec.ofInt k.bits b).toNat)))
  | .eql=>guardB (fY k k') (some (.bool (a==b)))
  | .neq=>guardB (fY k k') (some (.bool (a !=b)))
  | .lss=>guardB (fY k k') (some (.bool (decide (a<b))))
  | .leq=>guardB (fY k k') (some (.bool (decide (a≤b))))
  | .gtr=>guardB (fY k k') (some (.bool (decide (a>b))))
  | .geq=>guardB (fY k k') (some (.bool (decide (a≥b))))
 | .bool a,.bool b=>
  match op with
  | .eql=>some (.bool (a==b))
  | .neq=>some (.bool (!(a==b)))
  |_=>none
 | .string a,.string b=>
  match op with
  | .eql=>some (.bool (a.toList==b.toList))
  | .neq=>some (.bool (!(a.toList==b.toList)))
  |_=>none
 |_,_=>none
def F0(op:UnOp)(x:Value):Option Value:=
 match op,x with
 | .neg,.int k n=>some (.int k (k.wrap (0-n)))
 | .xor,.int k n=>some (.int k (k.wrap (BitVec.ofInt k.bits (if k.signed then-1 else k.max) ^^^ BitVec.ofInt k.bits n).toNat))
 | .not,.bool b=>some (.bool (!b))
 |_,_=>none
def A8(t:TypeId)(a b:AV):Option Bool:=
 match P.underlying t,a,b with
 |some (.int _),.lit (.int k a),.lit (.int k' b)=>guardB (fY k k') (some (a==b))
 |some .bool,.lit (.bool a),.lit (.bool b)=>some (a==b)
 |some .string,.lit (.string a),.lit (.string b)=>some (a.toList==b.toList)
 |_,_,_=>none
def jZ:List Field->Nat->List AV->List AV->Option Bool
 | [],_,[],[]=>some true
 |f::fs,n,a::as,b::bs=>guardB ((f.name != "_")&&Nat.beq f.offset n) ((A8 P f.type a b).bind fun q=>(jZ fs (n+1) as bs).map fun r=>q&&r)
 |_,_,_,_=>none
def lI(t:TypeId)(a b:List AV):Option Bool:=
 match P.underlying t with
 |some (.struct fs)=>guardB ((!(P.stoodInHeld t))&&(!(P.eqGuardType P.depth t))) (jZ P fs.toList 0 a b)
 |_=>none
def Gr(t:TypeId):Bool:=
 match P.underlying t with
 |some (.pointer _)=>true
 |_=>false
def GH(t:TypeId):Bool:=
 match P.underlying t with
 |some .bool=>true
 |_=>false
def CV(t:TypeId)(a b:Value):Bool:=
 match a,b with
 | .bool _,.bool _=>GH P t
 |_,_=>true
def Am(t:TypeId):Bool:=
 match P.underlying t with
 |some (.slice _)=>true
 |_=>false
def jH:PV->Option Bool
 | .ints _ xs=>some xs.isEmpty
 | .sl _ xs=>some xs.isEmpty
 |_=>none
def qJ(op:BinOp)(t:TypeId)(x y:AV):Option AV:=
 match x,y with
 | .imm _ p,.lit (.slice none 0 0)=>
  match op with
  | .eql=>guardB (Am P t) ((jH p).map λe=>bif e then .unkB else .lit (.bool false))
  | .neq=>guardB (Am P t) ((jH p).map λe=>bif e then .unkB else .lit (.bool true))
  |_=>none
 | .lit (.slice none 0 0),.lit (.slice none 0 0)=>
  match op with
  | .eql=>guardB (Am P t) (some (.lit (.bool true)))
  | .neq=>guardB (Am P t) (some (.lit (.bool false)))
  |_=>none
 | .lit a,.lit b=>guardB (CV P t a b) ((pM op a b).map .lit)
 | .agg a,.agg b=>
  match op with
  | .eql=>(lI P t a b).map λr=> .lit (.bool r)
  | .neq=>(lI P t a b).map λr=> .lit (.bool (!r))
  |_=>none
 | .ptr _ _ _ _,.lit (.pointer none)| .el _ _ _,.lit (.pointer none)=>
  match op with
  | .eql=>guardB (Gr P t) (some (.lit (.bool false)))
  | .neq=>guardB (Gr P t) (some (.lit (.bool true)))
  |_=>none
 |_,_=>none
def setCells:List AV->Nat->List AV->List AV
 |cs,_,[]=>cs
 |cs,i,v::r=>setCells (cs.set i v) (i+1) r
def nG:List PV->Nat->List PV->List PV
 |cs,_,[]=>cs
 |cs,i,v::r=>nG (cs.set i v) (i+1) r
def w6(y:Nat):Option Int->Nat->Option Nat
 |none,d=>some d
 |some i,_=>guardB (decide (0≤i)&&decide (i≤(y:Int))) (some i.toNat)
def fQ(len:Nat)(lo hi mx:Option Int):Option (Nat×Nat):=
 guardB (mx.isNone||hi.isSome)
  ((w6 len mx len).bind λm=>(w6 m hi len).bind λh=>(w6 h lo 0).bind λl=>some (l,h))
def JM:Option AV->Option (Option Int)
 |none=>some none
 |some (.lit (.int _ n))=>some (some n)
 |some _=>none
def Od(k:IntKind)(x y:Int):Int:=bif decide (y<x)then y else x
def Oi(k:IntKind)(x y:Int):Int:=bif decide (y>x)then y else x
def j8(f:Int->Int->Int)(k:IntKind):List AV->Int->Option Int
 | [],a=>some a
 | .lit (.int k' b)::r,a=>guardB (fY k k') (j8 f k r (f a b))
 |_,_=>none
def bF:Nat:=4294967296
def aL.app(t:TypeId)(x y:aL):Option aL:=
 match x,y with
 | .ints k xs,.ints k' ys=>guardB (fY k k') (some (.ints k (xs++ys)))
 | .pvs β e xs,.pvs β' e' ys=>guardB (Nat.beq e e') (some (.pvs (β||β') e (xs++ys)))
 | .avs e xs,y=>(y.toAvs P t).bind λys=>guardB (iD ys&&Nat.beq e y.e&&Nat.ble 1 e) (some (.avs e (xs++ys)))
 |_,_=>none
def vO(tx:TypeId)(y:AV):Bool:=
 match P.underlying tx,y with
 |some .string,.lit (.string _)=>true
 |some (.slice _),.lit (.string _)=>false
 |some (.slice _),_=>true
 |_,_=>false
def kE(vars:Bool)(et:TypeId)(v:aL):Option aX:=
 bif vars then guardB (Nat.ble 1 v.len) ((v.toAvs P et).bind λcs=>guardB (iD cs) (some (.cells v.e cs)))else
 match v with
 | .avs _ _=>none
 |v=>some v.row
def f6(boxed vars:Bool)(t tx:TypeId)(mem:aK)(rs:Nat)(x y:AV):Option cU:=
 (elemOf? P t).bind λet=>(gW P et).bind λs=>(iQ P et).bind λbytes=>(zero? P et).bind λz=>
 (view P et mem y).bind λyv=>
 guardB (Nat.beq s yv.1.e&&vO P tx y&&Nat.ble bytes 4096&&Nat.ble 1 s&&Nat.beq z.cells.length s)
 (match x with
 | .lit (.slice none 0 0)=>
  guardB (Nat.ble yv.1.len bF) (
  bif boxed then(kE P vars et yv.1).map λrow=>{v:= .msw rs 0,rd:=yv.2,wr:= [(rs,{gen:=0,frz:=false,row})]}
  else yv.1.imm?.map λv=>{v,rd:=yv.2})
 | .msw b g=>(box? mem b g).bind λbx=>(bx.row.all.app P et yv.1).bind λzv=>
  guardB (!bx.frz&&Nat.beq s bx.row.e&&Nat.ble zv.len bF)
   (some {v:= .msw b (g+1),rd:=b::yv.2,wr:= [(b,{gen:=g+1,frz:=false,row:=zv.row})]})
 | .ms b g o n=>(box? mem b g).bind λbx=>(bx.row.sub o n).bind λxv=>(xv.app P et yv.1).bind λzv=>
  guardB (!bx.frz&&Nat.beq s bx.row.e&&Nat.ble zv.len bF&&(Nat.beq o 0||(bx.row.isInts&&Nat.ble 1 zv.len)))
   (some {v:= .msw b (g+1),rd:=b::yv.2,wr:= [(b,{gen:=g+1,frz:=false,row:=zv.row})]})
 |_=>none)
def gG(t:TypeId)(mem:aK)(x:AV)(i:Int):Option cU:=
 match P.underlying t with
 |some (.slice et)=>(gW P et).bind λs=>
  match x with
  | .imm β (.ints k xs)=>guardB (Nat.beq s 1) ((aV xs i).bind λv=>some {v:= .el β (.lit (.int k v)) 0})
  | .imm β (.sl e xs)=>guardB (Nat.beq s e) ((aV xs i).bind λv=>some {v:= .el β v 0})
  | .ms b g o n=>(box? mem b g).bind λbx=>guardB (Nat.beq s bx.row.e&&decide (0≤i)&&decide (i<(n:Int))) (some {v:= .ptr b g (o+i.toNat) 0,rd:= [b]})
  | .msw b g=>(box? mem b g).bind λbx=>guardB (Nat.beq s bx.row.e&&decide (0≤i)&&decide (i<(bx.row.len:Int))) (some {v:= .ptr b g i.toNat 0,rd:= [b]})
  |_=>none
 |some (.array n e)=>(gW P e).bind λs=>
  match x with
  | .ptr b g j c=>guardB (decide (0≤i)&&decide (i<(n:Int))) (some {v:= .ptr b g j (c+i.toNat*s)})
  |_=>none
 |_=>none
def iA(t:TypeId)(mem:aK)(a:AV):Option cU:=
 match a with
 | .el β p c=>(Lu P β t p c).map λv=>{v}
 | .ptr b g i c=>(box? mem b g).bind λbx=>
  match bx.row with
  | .cells e cs=>
   (isAgg? P t).bind λag=>bif ag then(gW P t).bind λn=>guardB (Nat.ble (i*e+c+n) cs.length) (some {v:= .agg ((cs.drop (i*e+c)).take n),rd:= [b]})
    else(cs[i*e+c]?).map λv=>{v,rd:= [b]}
  | .ints k xs=>guardB (Nat.beq c 0) (guardB (match isAgg? P t with|some false=>true|_=>false) ((xs[i]?).map λx=>{v:= .lit (.int k x),rd:= [b]}))
  | .pvs β e xs=>(xs[i]?).bind λx=>(Lu P β t x c).map λv=>{v,rd:= [b]}
  | .own _ _ _=>none
 |_=>none
def gZ(t:TypeId)(mem:aK)(a x:AV):Option cU:=
 match a with
 | .ptr b g i c=>(box? mem b g).bind λbx=>(gW P t).bind λn=>guardB (!bx.frz&&Nat.beq x.cells.length n)
  (match bx.row with
  | .cells e cs=>guardB (Nat.ble (i*e+c+n) cs.length&&iD x.cells) (some {v:= .lit undef,rd:= [b],wr:= [(b,{bx with row:= .cells e (setCells cs (i*e+c) x.cells)})]})
  | .ints k xs=>
   match x with
   | .lit (.int k' v)=>guardB (fY k k'&&Nat.beq c 0&&Nat.ble (i+1) xs.length) (some {v:= .lit undef,rd:= [b],wr:= [(b,{bx with row:= .ints k (xs.set i v)})]})
   |_=>none
  | .pvs β e xs=>(xs[i]?).bind λp=>(qH P mem t x).bind λq=>guardB (Nat.ble (c+n) e&&Nat.beq p.cells.length e&&!dL b q.2.2)
    (some {v:= .lit undef,rd:=b::q.2.2,wr:=bV mem q.2.2++ [(b,{bx with row:= .pvs (β||q.1) e (xs.set i (bif Nat.beq n e&&Nat.beq c 0 then q.2.1 else .agg (nG p.cells c q.2.1.cells)))})]})
  | .own _ _ _=>none)
 |_=>none
def fA(t:TypeId)(mem:aK)(x:AV)(lo hi mx:Option Int):Option cU:=
 match P.underlying t with
 |some .string=>
  match x with
  | .lit (.string s)=>guardB mx.isNone ((fQ s.size lo hi none).map λb=>{v:= .lit (.string (s.extract b.1 b.2))})
  |_=>none
 |some (.slice et)=>(gW P et).bind λs=>
  match x with
  | .imm β (.ints k xs)=>guardB (Nat.beq s 1) ((fQ xs.length lo hi mx).map λb=>{v:= .imm β (.ints k ((xs.take b.2).drop b.1))})
  | .imm β (.sl e xs)=>guardB (Nat.beq s e) ((fQ xs.length lo hi mx).map λb=>{v:= .imm β (.sl e ((xs.take b.2).drop b.1))})
  | .ms b g o n=>(box? mem b g).bind λbx=>guardB (Nat.beq s bx.row.e) ((fQ n lo hi mx).map λq=>{v:= .ms b g (o+q.1) (q.2-q.1),rd:= [b]})
  | .msw b g=>(box? mem b g).bind λbx=>guardB (Nat.beq s bx.row.e) ((fQ bx.row.len lo hi mx).map λq=>{v:= .ms b g q.1 (q.2-q.1),rd:= [b]})
  | .lit (.slice none 0 0)=>(fQ 0 lo hi mx).map λ_=>{v:= .lit (.slice none 0 0)}
  |_=>none
 |some (.array n e)=>(gW P e).bind λs=>
  match x with
  | .ptr b g 0 c=>guardB (Nat.beq s 1) ((box? mem b g).bind λbx=>
    match bx.row with
    | .cells 1 cs=>guardB (Nat.ble (c+n) cs.length) ((fQ n lo hi mx).map λq=>{v:= .ms b g (c+q.1) (q.2-q.1),rd:= [b]})
    |_=>none)
  |_=>none
 |_=>none
def kB(s:TypeId)(f:Nat):Option (Nat×Nat×TypeId):=
 match P.underlying s with
 |some (.struct fs)=>(fs[f]?).bind λx=>(gW P x.type).bind λn=>guardB (Nat.ble 1 n) (some (x.offset,n,x.type))
 |_=>none
def BM(place:Nat->Option (Nat×Nat))(cs:List AV):List (Nat×AV)->Option (List AV)
 | []=>some cs
 |(i,v)::r=>(place i).bind λq=>guardB (Nat.beq v.cells.length q.2&&Nat.ble (q.1+q.2) cs.length) (BM place (setCells cs q.1 v.cells) r)
def places?:List Field->Option (List (Nat×Nat))
 | []=>some []
 |f::r=>(gW P f.type).bind λn=>(places? r).map ((f.offset,n):: ·)
def AL(t:TypeId)(parts:List (Nat×AV)):Option AV:=
 (zero? P t).bind λz=>
 match P.underlying t with
 |some (.struct fs)=>(places? P fs.toList).bind λps=>(BM (λi=>ps[i]?) z.cells parts).map .agg
 |some (.array _ e)=>(gW P e).bind λn=>(BM (λi=>some (i*n,n)) z.cells parts).map .agg
 |_=>none
def lQ(vs:List AV):List (Nat×AV)->List AV
 | []=>vs
 |(i,v)::r=>lQ (vs.set i v) r
def mK(n:Nat):List (Nat×AV)->Bool
 | []=>true
 |(i,_)::r=>Nat.ble (i+1) n&&mK n r
def mG(ρ:Operand->Option AV):List Operand->Option (List AV)
 | []=>some []
 |x::r=>(ρ x).bind λv=>(mG ρ r).map (v:: ·)
def jC(ρ:Operand->Option AV):List (Nat×Operand)->Option (List (Nat×AV))
 | []=>some []
 |(i,x)::r=>(ρ x).bind λv=>(jC ρ r).map ((i,v):: ·)
def z9(ρ:Operand->Option AV):Option Operand->Option (Option Int)
 |none=>some none
 |some x=>(ρ x).bind λv=>JM (some v)
mutual
def AV.refs:AV->List Nat
 | .ptr b _ _ _=> [b]
 | .ms b _ _ _=> [b]
 | .msw b _=> [b]
 | .fn _ fi ca=>AV.refsAll fi++AV.refsAll ca
 | .agg cs=>AV.refsAll cs
 | .tup vs=>AV.refsAll vs
 | .lit _=> []
 | .imm _ _=> []
 | .el _ _ _=> []
def AV.refsAll:List AV->List Nat
 | []=> []
 |v::r=>v.refs++AV.refsAll r
end
def eL:List (Nat×Nat×AV)->List Nat
 | []=> []
 |(_,_,v)::r=>v.refs++eL r
def aX.refs:aX->List Nat
 | .cells _ cs=>AV.refsAll cs
 | .own _ _ hs=>eL hs
 |_=> []
def AX(mem:aK)(b:Nat):List Nat:=
 match mem[b]? with
 |some (some x)=>x.row.refs
 |_=> []
def fF(mem:aK):Nat->List Nat->List Nat->List Nat
 |0,_,seen=>seen
 |_,[],seen=>seen
 |n+1,b::todo,seen=>bif dL b seen then fF mem n todo seen else fF mem n (todo++AX mem b) (seen++ [b])
def sC(b:Nat):List Nat->Nat->Option Nat
 | [],_=>none
 |m::r,n=>bif Nat.beq m b then some n else sC b r (n+1)
def mR(mem:aK)(b:Nat):Option Nat:=
 match mem[b]? with
 |some (some x)=>some x.gen
 |_=>none
abbrev i7:=Nat->Nat->Option (Nat×Nat)
mutual
def AV.ren(f:i7):AV->AV
 | .ptr b g i c=>match f b g with|some q=> .ptr q.1 q.2 i c|none=> .dead
 | .ms b g o n=>match f b g with|some q=> .ms q.1 q.2 o n|none=> .dead
 | .msw b g=>match f b g with|some q=> .msw q.1 q.2|none=> .dead
 | .fn h fi ca=> .fn h (AV.renAll f fi) (AV.renAll f ca)
 | .agg cs=> .agg (AV.renAll f cs)
 | .tup vs=> .tup (AV.renAll f vs)
 | .lit v=> .lit v
 | .imm β p=> .imm β p
 | .el β p c=> .el β p c
def AV.renAll(f:i7):List AV->List AV
 | []=> []
 |v::r=>v.ren f::AV.renAll f r
end
def mW(f:i7):List (Nat×Nat×AV)->List (Nat×Nat×AV)
 | []=> []
 |(i,c,v)::r=>(i,c,v.ren f)::mW f r
def aX.ren(f:i7):aX->aX
 | .own e xs hs=> .own e xs (mW f hs)
 | .cells e cs=> .cells e (AV.renAll f cs)
 | .ints k xs=> .ints k xs
 | .pvs β e xs=> .pvs β e xs
def aX.isCells:aX->Bool
 | .cells _ _=>true
 |_=>false
def eY(m:Nat)(keep cells:Bool)(j g:Nat):Nat:=bif Nat.blt j m&&!cells then(bif keep&&Nat.beq g 0 then 0 else 1)else 0
def j3(mem:aK)(b:Nat):Bool:=
 match mem[b]? with
 |some (some x)=>x.row.isCells
 |_=>false
def eU(m:Nat)(keep:Bool)(mem:aK)(ids:List Nat):i7:=λb g=>
 match mR mem b with
 |some h=>bif Nat.beq h g then(sC b ids 0).map λj=>(j,eY m keep (j3 mem b) j h)else none
 |none=>none
def dN(m:Nat)(keep:Bool)(f:i7)(mem:aK):Nat->List Nat->aK
 |_,[]=> []
 |j,b::r=>(match mem[b]? with
  |some (some x)=>some {gen:=eY m keep x.row.isCells j x.gen,frz:=x.frz,row:=x.row.ren f}
  |_=>none)::dN m keep f mem (j+1) r
def OW:List Nat->List Nat->Bool
 | [],_=>true
 |b::r,ids=>dL b ids&&OW r ids
def rI:List Nat->List Nat->Bool
 | [],_=>true
 |b::r,ids=>(!dL b ids)&&rI r ids
def dB:List Nat->Bool
 | []=>true
 |b::r=>(!dL b r)&&dB r
def nS:Nat->Nat->List Nat
 |_,0=> []
 |a,n+1=>a::nS (a+1) n
def cW(mem:aK)(n:Nat):Nat:=(mem.length+1)*(mem.length+1)+n
def qD(mem:aK):List (Option Bool):=mem.map λx=>x.map (·.row.isCells)
def mZ:List (Option Bool)->aK->Bool
 | [],_=>true
 |some k::r,some x::m=>(bif k then x.row.isCells&&Nat.beq x.gen 0 else !x.row.isCells)&&mZ r m
 |none::r,none::m=>mZ r m
 |_,_=>false
def sS:Nat->Nat->List Nat->Bool
 |_,0,_=>true
 |i,n+1,b::r=>Nat.beq b i&&sS (i+1) n r
 |_,_+1,[]=>false
def b6:aK->List Nat
 | []=> []
 |some x::r=>x.row.refs++b6 r
 |none::r=>b6 r
def cB(b:Nat):List Nat->Nat
 | []=>0
 |m::r=>bif Nat.beq m b then cB b r+1 else cB b r
def wQ(mem:aK)(v:AV):Option (Nat×PV):=
 match v with
 | .msw b g=>(box? mem b g).bind λx=>bif x.frz then none else match x.row with
  | .ints k xs=>some (b,.ints k xs)
  | .pvs false e xs=>some (b,.sl e xs)
  |_=>none
 | .ms b g 0 n=>(box? mem b g).bind λx=>bif x.frz then none else match x.row with
  | .ints k xs=>guardB (Nat.ble n xs.length) (some (b,.ints k (xs.take n)))
  | .pvs false e xs=>guardB (Nat.ble n xs.length) (some (b,.sl e (xs.take n)))
  |_=>none
 |_=>none
def m7(v:AV):Option Nat:=
 match v with
 | .msw b _=>some b
 | .ms b _ _ _=>some b
 |_=>none
def NO:PV->PV->Bool
 | .ints k _,.ints k' _=>fY k k'
 | .sl e _,.sl e' _=>Nat.beq e e'
 |_,_=>false
def jX(m:Nat)(refs:List Nat)(mem:aK)(v:AV):Bool:=
 match m7 v with
 |some b=>Nat.ble m b&&Nat.beq (cB b refs) 1&&(match mem[b]? with
  |some (some x)=>(match v with| .msw _ g=>Nat.beq x.gen g| .ms _ g _ _=>Nat.beq x.gen g|_=>false)&&!x.frz&&(match x.row with| .ints _ _=>true| .pvs β _ _=>!β|_=>false)
  |_=>false)
 |none=>false
def i6(c:Nat):List (Nat×Nat×AV)->Option (Nat×AV)
 | []=>none
 |(i,c',v)::r=>bif Nat.beq c c' then some (i,v)else i6 c r
def cD{α:Type}:List α->Nat->List α
 | [],_=> []
 |_::r,0=>r
 |a::r,n+1=>a::cD r n
def jJ(m:Nat)(refs:List Nat)(mem:aK)(all:List (Nat×Nat×AV)):List (Nat×Nat×AV)->Nat->Option Nat
 | [],_=>none
 |(_,c,v)::r,k=>bif jX m refs mem v&&(i6 c (cD all k)).isNone then some k else jJ m refs mem all r (k+1)
def gJ(m:Nat)(refs:List Nat)(mem:aK):aK->Nat->Option (Nat×Nat)
 | [],_=>none
 |x::r,b=>match x with
  |some {row:= .own _ _ hs,..}=>(match jJ m refs mem hs hs 0 with
   |some k=>some (b,k)
   |none=>gJ m refs mem r (b+1))
  |_=>gJ m refs mem r (b+1)
def iB(p:PV)(c:Nat)(y:PV):PV:=
 match p with
 | .agg cs=> .agg (cs.set c y)
 |_=>y
def oP(mem:aK)(b k:Nat):Option aK:=
 match mem[b]? with
 |some (some {gen,frz,row:= .own e xs hs})=>(hs[k]?).bind λh=>(xs[h.1]?).bind λp=>(p.cells[h.2.1]?).bind λy=>(wQ mem h.2.2).bind λq=>
   guardB (NO y q.2&&!(Nat.beq q.1 b)&&(i6 h.2.1 (cD hs k)).isNone) (some ((mem.set b (some {gen,frz,row:= .own e (xs.set h.1 (iB p h.2.1 q.2)) (cD hs k)})).set q.1 none))
 |_=>none
def kR(m:Nat)(vs:List AV):Nat->aK->Option aK
 |0,mem=>some mem
 |n+1,mem=>match gJ m (AV.refsAll vs++b6 mem) mem mem 0 with
  |none=>some mem
  |some q=>(oP mem q.1 q.2).bind λmem'=>kR m vs n mem'
def Lx(mem:aK)(b:Nat):Bool:=
 match mem[b]? with
 |some (some _)=>true
 |_=>false
def pN(m:Nat)(vs:List AV):Nat->aK->aK
 |0,mem=>mem
 |b+1,mem=>pN m vs b (bif Nat.ble m b&&Lx mem b&&Nat.beq (cB b (AV.refsAll vs++b6 mem)) 0 then mem.set b none else mem)
def Bp(m:Nat)(vs:List AV)(mem:aK):Option aK:=kR m vs 64 (pN m vs mem.length mem)
def qV(keep:Bool)(old:List (Option Bool))(vs:List AV)(mem0:aK):Option (List AV×aK):=
 (Bp old.length vs mem0).bind λmem=>
 let ids:=fF mem (cW mem (old.length+(AV.refsAll vs).length)) (nS 0 old.length++AV.refsAll vs) []
 guardB (mZ old mem&&dB ids&&sS 0 old.length ids) (some (AV.renAll (eU old.length keep mem ids) vs,dN old.length keep (eU old.length keep mem ids) mem 0 ids))
def AV.frz(m:Nat)(mem:aK):AV->AV
 | .msw b g=>bif Nat.ble m b then
   (match box? mem b g with
   |some x=>(match x.row with
    | .ints k xs=> .imm false (.ints k xs)
    | .pvs β e xs=> .imm β (.sl e xs)
    | .cells _ _=> .msw b g
    | .own _ _ _=> .msw b g)
   |none=> .msw b g)
  else .msw b g
 |v=>v
def AV.frzAll(m:Nat)(mem:aK):List AV->List AV
 | []=> []
 |v::r=>v.frz m mem::AV.frzAll m mem r
def kP(m:Nat)(mem:aK):AV->AV
 | .tup vs=> .tup (AV.frzAll m mem vs)
 | .agg vs=> .agg (AV.frzAll m mem vs)
 |v=>v.frz m mem
mutual
def AV.lent:AV->Bool
 | .imm β _=>β
 | .el β _ _=>β
 | .fn _ fi ca=>AV.lentAny fi||AV.lentAny ca
 | .agg cs=>AV.lentAny cs
 | .tup vs=>AV.lentAny vs
 | .lit _=>false
 | .ptr _ _ _ _=>false
 | .ms _ _ _ _=>false
 | .msw _ _=>false
def AV.lentAny:List AV->Bool
 | []=>false
 |v::r=>v.lent||AV.lentAny r
end
def j5:List (Nat×Nat×AV)->Bool
 | []=>false
 |(_,_,v)::r=>v.lent||j5 r
def gA:aK->Bool
 | []=>false
 |some x::r=>(match x.row with| .cells _ cs=>AV.lentAny cs| .pvs β _ _=>β| .ints _ _=>false| .own _ _ hs=>j5 hs)||gA r
 |none::r=>gA r
def fX(mem:aK)(l:LK)(v:AV):Option (AV×List Nat):=
 match v with
 | .msw _ _| .ms _ _ _ _=>(iI P mem l v).map λq=>(.imm true q.2.1,q.2.2)
 |v=>some (v,[])
def bR(mem:aK):List LK->List AV->Option (List AV×List Nat)
 | [],[]=>some ([],[])
 |l::ls,v::vs=>(fX P mem l v).bind λa=>(bR mem ls vs).bind λr=>some (a.1::r.1,a.2++r.2)
 |_,_=>none
def FU:List AV->Bool
 | []=>false
 | .msw _ _::_=>true
 | .ms _ _ _ _::_=>true
 |_::r=>FU r
def lend(mem:aK)(t:TypeId)(v:AV):Option (AV×List Nat):=
 match v with
 | .msw _ _| .ms _ _ _ _=>(leaf? P t).bind λl=>fX P mem l v
 | .agg cs=>bif FU cs then(leaves? P 8 t).bind λls=>(bR P mem ls cs).map λr=>(.agg r.1,r.2)else some (.agg cs,[])
 |v=>some (v,[])
def fI(mem:aK):List TypeId->List AV->Option (List AV×List Nat)
 | [],[]=>some ([],[])
 |t::ts,v::r=>(lend P mem t v).bind λa=>(fI mem ts r).bind λb=>some (a.1::b.1,a.2++b.2)
 |_,_=>none
def H9(keep:Bool)(mem:aK)(ts:List TypeId)(vs:List AV):Option (List AV×List Nat):=bif keep then some (vs,[])else fI P mem ts vs
def cI(mem sub:aK)(ids:List Nat):i7:=λb g=>
  (match ids[b]? with
  |some a=>(match sub[b]?,mR mem a with
   |some (some x),some h=>bif Nat.beq x.gen g then some (a,h+x.gen)else none
   |_,_=>none)
  |none=>bif Nat.beq g 0&&Nat.blt b sub.length then some (mem.length+(b-ids.length),0)else none)
def bE(f:i7)(mem:aK):List Nat->aK->List (Nat×bG)
 |a::ids,some x::r=>(a,{gen:=(match mR mem a with|some h=>h+x.gen|none=>0),frz:=x.frz,row:=x.row.ren f})::bE f mem ids r
 |_::ids,none::r=>bE f mem ids r
 |_,_=> []
def d9(f:i7):aK->aK
 | []=> []
 |some x::r=>some {gen:=0,frz:=x.frz,row:=x.row.ren f}::d9 f r
 |none::r=>none::d9 f r
def e6(m:Nat):List Nat->Bool
 | []=>true
 |b::r=>Nat.blt b m&&e6 m r
def vQ(C:bM)(raw keep:Bool)(g:FuncId)(ts:List TypeId)(fi args ca:List AV)(mem:aK):Option cU:=
 (H9 P keep mem ts args).bind λla=>
 let all:=fi++la.1++ca
 let ids:=fF mem (cW mem (AV.refsAll all).length) (AV.refsAll all) []
 guardB (dB ids&&rI la.2 ids)
 ((C g (AV.renAll (eU 0 true mem ids) all) (dN 0 true (eU 0 true mem ids) mem 0 ids)).bind fun q =>
  let m:=ids.length
  let r:=bif raw then q.1 else kP m q.2 q.1
  guardB (Nat.ble m q.2.length&&(eX la.2||!(q.1.lent||gA q.2)))
  (bif e6 m r.refs && e6 m (b6 (q.2.take m)) then
   some {v:=r.ren (cI mem (q.2.take m) ids),rd:=la.2++ids,wr:=bE (cI mem (q.2.take m) ids) mem ids q.2}
  else
   some {v:=q.1.ren (cI mem q.2 ids),rd:=la.2++ids,wr:=bE (cI mem q.2 ids) mem ids q.2,push:=d9 (cI mem q.2 ids) (q.2.drop m)}))
def BP(t tx:TypeId)(mem:aK)(rs:Nat)(n:Int):Option cU:=
 match P.underlying tx with
 |some (.int _)=>(elemOf? P t).bind λet=>(zero? P et).bind λz=>
  match intKind? P et with
  |none=>(qH P mem et z).bind λq=>(gW P et).bind λe=>(iQ P et).bind λbytes=>
   guardB (decide (1≤n)&&Nat.ble n.toNat bF&&(Nat.ble 1 e&&Nat.ble bytes 4096&&Nat.beq z.cells.length e&&eX q.2.2)) (some {v:= .msw rs 0,wr:= [(rs,{gen:=0,frz:=false,row:= .pvs q.1 e (List.replicate n.toNat q.2.1)})]})
  |some _=>none
 |_=>none
def dK(boxed vars:Bool)(b:Builtin)(ts:List TypeId)(mem:aK)(rs:Nat)(args:List AV):Option cU:=
 match b,ts,args with
 | .len,[t],[x]=>(lenOf P t mem x).map λn=>{v:= .lit (.int .i64 (n.1:Int)),rd:=n.2}
 | .append,[t,tx],[.lit (.slice none 0 0),.lit (.int _ n)]=>BP P t tx mem rs n
 | .append,[t,tx],[x,y]=>f6 P boxed vars t tx mem rs x y
 | .cap,[t],[.lit (.slice none 0 0)]=>(match P.underlying t with|some (.slice _)=>some {v:= .lit (.int .i64 0)}|_=>none)
 | .min,_,.lit (.int k a)::r=>(j8 (Od k) k r a).map λv=>{v:= .lit (.int k v)}
 | .max,_,.lit (.int k a)::r=>(j8 (Oi k) k r a).map λv=>{v:= .lit (.int k v)}
 |_,_,_=>none
def qC(boxed:Bool)(rs:Nat)(v:aL):Option cU:=
 bif boxed then some {v:= .msw rs 0,wr:= [(rs,{gen:=0,frz:=false,row:=v.row})]}else v.imm?.map λa=>{v:=a}
def j7(boxed:Bool)(src dst:TypeId)(mem:aK)(rs:Nat)(x:AV):Option cU:=
 match P.underlying src,P.underlying dst,x with
 |some (.int _),some (.int k),.lit (.int _ n)=>some {v:= .lit (.int k (k.wrap n))}
 |some .string,some .string,.lit (.string s)=>some {v:= .lit (.string s)}
 |some (.slice e),some .string,x=>
  match P.underlying e with
  |some (.int .u8)=>(view P e mem x).bind λv=>guardB (vO P src x&&(match gW P e with|some 1=>true|_=>false))<|
   match v.1 with
   | .ints .u8 xs=>some {v:= .lit (.string (oJ xs)),rd:=v.2}
   |_=>none
  |_=>none
 |some (.slice _),some (.slice e),.msw b g=>
  match P.underlying e with
  |some (.int .u8)=>guardB (Nat.beq src dst) ((box? mem b g).bind λx=>guardB (Nat.ble 1 x.row.len) (some {v:= .msw b g,rd:= [b]}))
  |_=>none
 |_,_,_=>none
def FJ(c a b:AV):Option AV:=
 match c with
 | .lit (.bool t)=>
  match a,b with
  | .lit (.bool x),.lit (.bool y)=>some (.lit (.bool (bif t then x else y)))
  |_,_=>bif t then some a else some b
 |_=>none
def CH(ρ:Operand->Option AV)(c a b:Operand):Option cU:=
 (ρ c).bind λc=>(ρ a).bind λa=>(ρ b).bind λb=>(FJ c a b).map λv=>{v}
def zV(rs:Nat)(t:TypeId):Option cU:=
 (zero? P t).bind λz=>guardB (Nat.ble 1 z.cells.length&&iD z.cells) (some {v:= .ptr rs 0 0 0,wr:= [(rs,{gen:=0,frz:=false,row:= .cells 1 z.cells})]})
def IB(ρ:Operand->Option AV)(rs:Nat)(t:TypeId)(x:Operand):Option cU:=
 (ρ x).bind λv=>(gW P t).bind λn=>guardB (Nat.beq v.cells.length n&&Nat.ble 1 n&&iD v.cells) (some {v:= .ptr rs 0 0 0,wr:= [(rs,{gen:=0,frz:=false,row:= .cells 1 v.cells})]})
def zI(ρ:Operand->Option AV)(t:TypeId)(parts:Array (Nat×Operand)):Option cU:=
 (jC ρ parts.toList).bind λps=>(AL P t ps).map λv=>{v}
def e5(boxed vars:Bool)(ρ:Operand->Option AV)(mem:aK)(rs:Nat)(t:TypeId)(len:Nat)(parts:Array (Nat×Operand)):Option cU:=
 (elemOf? P t).bind λet=>(zero? P et).bind λz=>(gW P et).bind λs=>(jC ρ parts.toList).bind λps=>
   guardB (mK len ps&&Nat.ble len 4096&&Nat.ble 1 s&&Nat.ble s 4096&&lF s (z::ps.map (·.2))) ((mE P vars mem et (lQ (List.replicate len z) ps)).bind λw=>guardB (Nat.beq w.1.e s)<|
    (qC (boxed || Nat.beq len 0) rs w.1).map fun o => { v := o.v, rd := w.2, wr := bV mem w.2 ++ o.wr })
def sV(ρ:Operand->Option AV)(mem:aK)(t:TypeId)(a x:Operand):Option cU:=
 (ρ a).bind λa=>(ρ x).bind λx=>gZ P t mem a x
def Jp(ρ:Operand->Option AV)(x:Operand):Option cU:=
 (ρ x).bind λv=>
  match v with
  | .ptr b g i c=>some {v}
  | .el β p c=>some {v}
  | .fn (.func f) fi ca=>some {v}
  |_=>none
def H1(ρ:Operand->Option AV)(op:BinOp)(t:TypeId)(x y:Operand):Option cU:=
 (ρ x).bind λx=>(ρ y).bind λy=>(qJ P op t x y).map λv=>{v}
def MR(ρ:Operand->Option AV)(op:UnOp)(x:Operand):Option cU:=
 (ρ x).bind λx=>
  match x with
  | .lit a=>(F0 op a).map λv=>{v:= .lit v}
  |_=>none
def Dc(ρ:Operand->Option AV)(fn:Fn)(first cap:Array Operand):Option cU:=
 (mG ρ first.toList).bind λfi=>(mG ρ cap.toList).map λca=>{v:= .fn fn fi ca}
def AW(boxed:Bool)(ρ:Operand->Option AV)(mem:aK)(rs:Nat)(t:TypeId)(l c:Operand):Option cU:=
 (elemOf? P t).bind λet=>(zero? P et).bind λz=>(ρ l).bind λl=>(ρ c).bind λc=>
  match l,c with
  | .lit (.int _ n),.lit (.int _ n')=>guardB (n==n'&&decide (0≤n)&&Nat.ble n.toNat bF) (
    match intKind? P et with
    |some k=>(gW P et).bind λe=>(iQ P et).bind λbytes=>(eM k [z]).bind λzs=>guardB (Nat.beq e 1&&Nat.ble bytes 4096) (qC boxed rs (.ints k (List.replicate n.toNat (zs.headD 0))))
    |none=>(qH P mem et z).bind λq=>(gW P et).bind λe=>(iQ P et).bind λbytes=>
      guardB (Nat.ble 1 e&&Nat.ble bytes 4096&&Nat.beq z.cells.length e&&eX q.2.2) (qC boxed rs (.pvs q.1 e (List.replicate n.toNat q.2.1))))
  |_,_=>none
def u9(ρ:Operand->Option AV)(mem:aK)(t:TypeId)(x:Operand)(lo hi mx:Option Operand):Option cU:=
 (ρ x).bind λx=>(z9 ρ lo).bind λlo=>(z9 ρ hi).bind λhi=>(z9 ρ mx).bind λmx=>fA P t mem x lo hi mx
def kA(ρ:Operand->Option AV)(s:TypeId)(x:Operand)(f:Nat):Option cU:=
 (ρ x).bind λx=>(kB P s f).bind λq=>
  match x with
  | .ptr b g i c=>some {v:= .ptr b g i (c+q.1)}
  | .el β p c=>some {v:= .el β p (c+q.1)}
  |_=>none
def Aj(ρ:Operand->Option AV)(s:TypeId)(x:Operand)(f:Nat):Option cU:=
 (ρ x).bind λx=>(kB P s f).bind λq=>
  match x with
  | .agg cs=>(isAgg? P q.2.2).bind λag=>bif ag then guardB (Nat.ble (q.1+q.2.1) cs.length) (some {v:= .agg ((cs.drop q.1).take q.2.1)})else(cs[q.1]?).map λv=>{v}
  |_=>none
def sT(ρ:Operand->Option AV)(mem:aK)(t:TypeId)(x ix:Operand):Option cU:=
 (ρ x).bind λx=>(ρ ix).bind λix=>
  match ix with
  | .lit (.int _ i)=>gG P t mem x i
  |_=>none
def oL(ρ:Operand->Option AV)(t:TypeId)(x ix:Operand):Option cU:=
 (ρ x).bind λx=>(ρ ix).bind λix=>
  match x,ix with
  | .agg cs,.lit (.int _ i)=>
   match P.underlying t with
   |some (.array n e)=>(isAgg? P e).bind λag=>(gW P e).bind λs=>guardB (!ag&&Nat.beq s 1&&decide (0≤i)&&decide (i<(n:Int))) ((cs[i.toNat]?).map λv=>{v})
   |_=>none
  | .lit (.string s),.lit (.int _ i)=>
   match P.underlying t with
   |some .string=>(aV (eO s) i).map λn=>{v:= .lit (.int .u8 n)}
   |_=>none
  |_,_=>none
def oK(ρ:Operand->Option AV)(t:Operand)(ix:Nat):Option cU:=
 (ρ t).bind λt=>
  match t with
  | .tup vs=>(vs[ix]?).map λv=>{v}
  |_=>none
def AG(C:bM)(boxed raw vars:Bool)(ρ:Operand->Option AV)(mem:aK)(rs:Nat)(c:Call):Option cU:=
 (mG ρ c.args.toList).bind λargs=>
  match c.callee with
  | .builtin b=>dK P boxed vars b c.argTypes.toList mem rs args
  | .value f=>(ρ f).bind λf=>
   match f with
   | .fn (.func g) fi ca=>vQ P C raw vars g c.argTypes.toList fi args ca mem
   |_=>none
  | .invoke _ _=>none
def iS:Operand->Bool
 | .const (.slice none 0 0)=>true
 |_=>false
def oV(t:TypeId):Option PV:=
 (elemOf? P t).bind λet=>
 match intKind? P et with
 |some k=>some (.ints k [])
 |none=>(gW P et).bind λe=>guardB (Nat.ble 1 e) (some (.sl e []))
def Ha:PV->Option aX
 | .ints k xs=>some (.ints k xs)
 | .sl e xs=>some (.pvs false e xs)
 |_=>none
def q7(boxed vars:Bool)(ρ:Operand->Option AV)(t:TypeId)(rs:Nat)(x:Operand):Option cU:=
 bif iS x&&boxed&&!vars then(oV P t).bind λp=>(Ha p).map λrow=>{v:= .msw rs 0,wr:= [(rs,{gen:=0,frz:=false,row})]}
 else(ρ x).bind λv=>
  match v with
  | .lit (.slice none 0 0)=>bif boxed then some {v}else(oV P t).map λp=>{v:= .imm false p}
  |v=>some {v}
def Lg(C:bM)(boxed raw vars:Bool)(o:Oper)(ρ:Operand->Option AV)(mem:aK)(rs:Nat):Option cU:=
 match o.op with
 | .move x=>q7 P boxed vars ρ o.type rs x
 | .assign x=>q7 P boxed vars ρ o.type rs x
 | .pick c a b=>CH ρ c a b
 | .alloc t=>zV P rs t
 | .box t x=>IB P ρ rs t x
 | .build t parts=>zI P ρ t parts
 | .buildSlice t len parts=>e5 P boxed vars ρ mem rs t len parts
 | .load t a=>(ρ a).bind λa=>iA P t mem a
 | .store t a x=>sV P ρ mem t a x
 | .nilCheck x=>Jp ρ x
 | .binOp op t x y _=>H1 P ρ op t x y
 | .unOp op _ x=>MR ρ op x
 | .convert src dst x=>(ρ x).bind λx=>j7 P boxed src dst mem rs x
 | .makeFunc fn first cap=>Dc ρ fn first cap
 | .makeSlice t l c=>AW P boxed ρ mem rs t l c
 | .slice t x lo hi mx=>u9 P ρ mem t x lo hi mx
 | .fieldAddr s x f=>kA P ρ s x f
 | .field s x f=>Aj P ρ s x f
 | .indexAddr t x ix=>sT P ρ mem t x ix
 | .index t x ix=>oL P ρ t x ix
 | .extract t ix=>oK ρ t ix
 | .call c=>AG P C boxed raw vars ρ mem rs c
 |_=>none
def sA(mem:aK)(b:Nat):Bool:=
 match mem[b]? with
 |some (some x)=>x.row.isOwn
 |_=>false
def yM(mem:aK):AV->Bool
 | .msw b _=>sA mem b
 | .ms b _ _ _=>sA mem b
 |_=>false
def He(mem:aK):AV->Bool
 | .msw b _=>sA mem b
 |_=>false
def HO(mem:aK):AV->Bool
 | .ptr b _ _ _=>sA mem b
 |_=>false
def zT(c:Nat):List (Nat×Nat×AV)->List (Nat×Nat×AV)
 | []=> []
 |(i,c',v)::r=>bif Nat.beq c c' then r else(i,c',v)::zT c r
def cH:PV->Option aX
 | .ints k ys=>some (.ints k ys)
 | .sl e ys=>guardB (Nat.ble 1 e) (some (.pvs false e ys))
 |_=>none
def mJ(tk:Bool)(xs:List PV)(i c:Nat)(l:LK)(hs:List (Nat×Nat×AV))(nb:Nat):Option (AV×List (Nat×Nat×AV)×List aX):=
 (xs[i]?).bind λp=>(p.cells[c]?).bind λy=>
 match i6 c hs with
 |some h=>guardB (Nat.beq i h.1) (some (h.2,hs,[]))
 |none=>bif wO l then(fC true l y).map λv=>(v,hs,[])
  else guardB tk ((cH y).map λrow=>(.msw nb 0,(i,c,.msw nb 0)::hs,[row]))
def nE(tk:Bool)(xs:List PV)(i:Nat):List LK->Nat->List (Nat×Nat×AV)->Nat->Option (List AV×List (Nat×Nat×AV)×List aX)
 | [],_,hs,_=>some ([],hs,[])
 |l::ls,c,hs,nb=>(mJ tk xs i c l hs nb).bind λa=>(nE tk xs i ls (c+1) a.2.1 (nb+a.2.2.length)).map λq=>(a.1::q.1,q.2.1,a.2.2++q.2.2)
def eA:List aX->aK
 | []=> []
 |r::rs=>some {gen:=0,frz:=false,row:=r}::eA rs
def yZ(b e:Nat)(bx:bG)(xs:List PV)(v:AV)(q:List (Nat×Nat×AV)×List aX):cU:=
 match q.2 with
 | []=>{v,rd:= [b]}
 |rows=>{v,rd:= [b],wr:= [(b,{bx with row:= .own e xs q.1})],push:=eA rows}
def zO(tk:Bool)(t:TypeId)(mem:aK)(a:AV):Option cU:=
 match a with
 | .ptr b g i c=>(boxO? mem b g).bind λbx=>
  match bx.row with
  | .own e xs hs=>
   match isAgg? P t with
   |some false=>(leaf? P t).bind λl=>(mJ tk xs i c l hs mem.length).map λq=>yZ b e bx xs q.1 q.2
   |some true=>(leaves? P 8 t).bind λls=>(gW P t).bind λn=>guardB (Nat.beq n ls.length) ((nE tk xs i ls c hs mem.length).map λq=>yZ b e bx xs (.agg q.1) q.2)
   |none=>none
  |_=>none
 |_=>none
def CF:Value->Value->Bool
 | .int k _,.int k' _=>fY k k'
 | .bool _,.bool _=>true
 | .string _,.string _=>true
 |_,_=>false
def z5:PV->Option PV
 | .ints k _=>some (.ints k [])
 | .sl e _=>guardB (Nat.ble 1 e) (some (.sl e []))
 |_=>none
def Ce(i c:Nat)(hs:List (Nat×Nat×AV)):Option (List (Nat×Nat×AV)):=
 match i6 c hs with
 |none=>some hs
 |some h=>guardB (Nat.beq i h.1&&(i6 c (zT c hs)).isNone) (some (zT c hs))
def kH(t:TypeId)(mem:aK)(a x:AV):Option cU:=
 match a with
 | .ptr b g i c=>(boxO? mem b g).bind λbx=>
  match bx.row with
  | .own e xs hs=>(gW P t).bind λn=>guardB (Nat.beq n 1&&!bx.frz&&GJ x) ((xs[i]?).bind λp=>(p.cells[c]?).bind λy=>
   match y,x with
   | .lit u,.lit v=>guardB (CF u v&&(i6 c hs).isNone) (some {v:= .lit undef,rd:= [b],wr:= [(b,{bx with row:= .own e (xs.set i (iB p c (.lit v))) hs})]})
   | .lit _,_=>none
   |y,.lit (.slice none 0 0)=>(z5 y).bind λy'=>(Ce i c hs).map λhs'=>{v:= .lit undef,rd:= [b],wr:= [(b,{bx with row:= .own e (xs.set i (iB p c y')) hs'})]}
   |y,.lit _=>none
   |y,x=>(Ce i c hs).map λhs'=>{v:= .lit undef,rd:= [b],wr:= [(b,{bx with row:= .own e xs ((i,c,x)::hs')})]})
  |_=>none
 |_=>none
def Im(t:TypeId)(mem:aK)(x:AV):Option cU:=
 match P.underlying t,x with
 |some (.slice _),.msw b g=>(boxO? mem b g).map λbx=>{v:= .lit (.int .i64 (bx.row.len:Int)),rd:= [b]}
 |_,_=>none
def pK(t:TypeId)(mem:aK)(x:AV)(i:Int):Option cU:=
 match P.underlying t with
 |some (.slice et)=>(gW P et).bind λs=>
  match x with
  | .ms b g o n=>(boxO? mem b g).bind λbx=>guardB (Nat.beq s bx.row.e&&decide (0≤i)&&decide (i<(n:Int))) (some {v:= .ptr b g (o+i.toNat) 0,rd:= [b]})
  | .msw b g=>(boxO? mem b g).bind λbx=>guardB (Nat.beq s bx.row.e&&decide (0≤i)&&decide (i<(bx.row.len:Int))) (some {v:= .ptr b g i.toNat 0,rd:= [b]})
  |_=>none
 |_=>none
def pA(t:TypeId)(mem:aK)(x:AV)(lo hi mx:Option Int):Option cU:=
 match P.underlying t with
 |some (.slice et)=>(gW P et).bind λs=>
  match x with
  | .ms b g o n=>(boxO? mem b g).bind λbx=>guardB (Nat.beq s bx.row.e) ((fQ n lo hi mx).map λq=>{v:= .ms b g (o+q.1) (q.2-q.1),rd:= [b]})
  | .msw b g=>(boxO? mem b g).bind λbx=>guardB (Nat.beq s bx.row.e) ((fQ bx.row.len lo hi mx).map λq=>{v:= .ms b g q.1 (q.2-q.1),rd:= [b]})
  |_=>none
 |_=>none
def zF(l:LK)(v:AV)(j c:Nat):Option (PV×List (Nat×Nat×AV)):=
 match l,v with
 | .int k,.lit (.int k' x)=>guardB (fY k k') (some (.lit (.int k' x),[]))
 | .bool,.lit (.bool b)=>some (.lit (.bool b),[])
 | .str,.lit (.string s)=>some (.lit (.string s),[])
 | .ints k,.lit (.slice none 0 0)=>some (.ints k [],[])
 | .sl _ e,.lit (.slice none 0 0)=>guardB (Nat.ble 1 e) (some (.sl e [],[]))
 | .ints k,.msw b g=>some (.ints k [],[(j,c,.msw b g)])
 | .ints k,.ms b g o n=>some (.ints k [],[(j,c,.ms b g o n)])
 | .sl _ e,.msw b g=>guardB (Nat.ble 1 e) (some (.sl e [],[(j,c,.msw b g)]))
 | .sl _ e,.ms b g o n=>guardB (Nat.ble 1 e) (some (.sl e [],[(j,c,.ms b g o n)]))
 |_,_=>none
def MG:List LK->List AV->Nat->Nat->Option (List PV×List (Nat×Nat×AV))
 | [],[],_,_=>some ([],[])
 |l::ls,v::vs,j,c=>(zF l v j c).bind λa=>(MG ls vs j (c+1)).map λq=>(a.1::q.1,a.2++q.2)
 |_,_,_,_=>none
def Cq(t:TypeId)(ls:List LK):List (List AV)->Nat->Option (List PV×List (Nat×Nat×AV))
 | [],_=>some ([],[])
 |cs::r,j=>(MG ls cs j 0).bind λa=>(qZ P t a.1).bind λp=>(Cq t ls r (j+1)).map λq=>(p::q.1,a.2++q.2)
def jY(n:Nat):List (Nat×Nat×AV)->Bool
 | []=>true
 |(i,_,_)::r=>Nat.blt i n&&jY n r
def kX(own:Bool)(t tx:TypeId)(mem:aK)(rs:Nat)(x y:AV):Option cU:=
 (elemOf? P t).bind λet=>(gW P et).bind λs=>(iQ P et).bind λbytes=>(zero? P et).bind λz=>(leaves? P 8 et).bind λls=>
 (view P et mem y).bind λyv=>
 match yv.1 with
 | .avs e cs=>guardB (Nat.beq s e&&vO P tx y&&Nat.ble bytes 4096&&Nat.ble 1 s&&Nat.beq z.cells.length s&&Nat.beq ls.length s&&iD cs)
  (match x with
  | .lit (.slice none 0 0)=>guardB own ((Cq P et ls (chunks s (aP s cs.length) cs) 0).bind λq=>guardB (Nat.ble 1 q.1.length&&Nat.ble q.1.length bF)
    (some { v := .msw rs 0, rd := yv.2, wr := [(rs, { gen := 0, frz := false, row := .own s q.1 q.2 })] }))
  | .msw b g=>(boxO? mem b g).bind λbx=>match bx.row with
   | .own e' xs hs=>(Cq P et ls (chunks s (aP s cs.length) cs) xs.length).bind λq=>guardB (!bx.frz&&Nat.beq s e'&&jY xs.length hs&&Nat.ble (xs++q.1).length bF)
     (some {v:= .msw b (g+1),rd:=b::yv.2,wr:= [(b,{gen:=g+1,frz:=false,row:= .own e' (xs++q.1) (hs++q.2)})]})
   |_=>none
  | .ms b g 0 n=>(boxO? mem b g).bind λbx=>match bx.row with
   | .own e' xs hs=>(Cq P et ls (chunks s (aP s cs.length) cs) n).bind λq=>guardB (!bx.frz&&Nat.beq s e'&&Nat.ble n xs.length&&jY n hs&&Nat.ble (xs.take n++q.1).length bF)
     (some {v:= .msw b (g+1),rd:=b::yv.2,wr:= [(b,{gen:=g+1,frz:=false,row:= .own e' (xs.take n++q.1) (hs++q.2)})]})
   |_=>none
  |_=>none)
 |_=>none
def Gn(ρ:Operand->Option AV)(mem:aK)(rs:Nat)(t:TypeId)(l c:Operand):Option cU:=
 (elemOf? P t).bind λet=>(zero? P et).bind λz=>(ρ l).bind λl=>(ρ c).bind λc=>(leaves? P 8 et).bind λls=>
  match l,c with
  | .lit (.int _ n),.lit (.int _ n')=>guardB (n==n'&&decide (0≤n)&&Nat.ble n.toNat bF) (
    (MG ls z.cells 0 0).bind λa=>(qZ P et a.1).bind λp=>(gW P et).bind λe=>(iQ P et).bind λbytes=>
      guardB (Nat.ble 1 e&&Nat.ble bytes 4096&&Nat.beq z.cells.length e&&iD z.cells&&(match a.2 with| []=>true|_=>false)) (some {v:= .msw rs 0,wr:= [(rs,{gen:=0,frz:=false,row:= .own e (List.replicate n.toNat p) []})]}))
  |_,_=>none
def Ba(ρ:Operand->Option AV)(mem:aK)(rs:Nat)(t:TypeId)(len:Nat)(parts:Array (Nat×Operand)):Option cU:=
 (elemOf? P t).bind λet=>(zero? P et).bind λz=>(gW P et).bind λs=>(jC ρ parts.toList).bind λps=>(leaves? P 8 et).bind λls=>
   guardB (mK len ps&&Nat.ble len 4096&&Nat.ble 1 s&&Nat.ble s 4096&&lF s (z::ps.map (·.2))&&Nat.beq ls.length s&&Nat.ble 1 len) ((Cq P et ls ((lQ (List.replicate len z) ps).map (·.cells)) 0).bind λq=>
    guardB (iD (fU (lQ (List.replicate len z) ps))) (some {v:= .msw rs 0,wr:= [(rs,{gen:=0,frz:=false,row:= .own s q.1 q.2})]}))
def Ge(t:TypeId)(rs:Nat):Option cU:=
 (elemOf? P t).bind λet=>(gW P et).bind λe=>guardB (Nat.ble 1 e) (some {v:= .msw rs 0,wr:= [(rs,{gen:=0,frz:=false,row:= .own e [] []})]})
def j4(own:Bool)(b:Builtin)(ts:List TypeId)(mem:aK)(rs:Nat)(args:List AV):Option cU:=
 match b,ts,args with
 | .len,[t],[x]=>Im P t mem x
 | .append,[t,tx],[x,y]=>kX P own t tx mem rs x y
 |_,_,_=>none
def kM(ρ:Operand->Option AV)(p:AV->Bool)(x:Operand):Bool:=
 match ρ x with
 |some v=>p v
 |none=>false
def bJ(own:Bool)(ρ:Operand->Option AV)(mem:aK):Op->Bool
 | .move x=>own&&iS x
 | .assign x=>own&&iS x
 | .buildSlice _ _ _=>own
 | .makeSlice _ _ _=>own
 | .load _ a=>kM ρ (HO mem) a
 | .store _ a _=>kM ρ (HO mem) a
 | .slice _ x _ _ _=>kM ρ (yM mem) x
 | .indexAddr _ x _=>kM ρ (yM mem) x
 | .call c=>(match c.callee,c.args.toList with
  | .builtin .len,[x]=>kM ρ (He mem) x
  | .builtin .append,[x,_]=>own||kM ρ (yM mem) x
  |_,_=>false)
 |_=>false
def Fw(own tk:Bool)(o:Oper)(ρ:Operand->Option AV)(mem:aK)(rs:Nat):Option cU:=
 match o.op with
 | .move _=>Ge P o.type rs
 | .assign _=>Ge P o.type rs
 | .buildSlice t len parts=>Ba P ρ mem rs t len parts
 | .makeSlice t l c=>Gn P ρ mem rs t l c
 | .load t a=>(ρ a).bind λa=>zO P tk t mem a
 | .store t a x=>(ρ a).bind λa=>(ρ x).bind λx=>kH P t mem a x
 | .slice t x lo hi mx=>(ρ x).bind λx=>(z9 ρ lo).bind λlo=>(z9 ρ hi).bind λhi=>(z9 ρ mx).bind λmx=>pA P t mem x lo hi mx
 | .indexAddr t x ix=>(ρ x).bind λx=>(ρ ix).bind λix=>
  match ix with
  | .lit (.int _ i)=>pK P t mem x i
  |_=>none
 | .call c=>(mG ρ c.args.toList).bind λargs=>
  match c.callee with
  | .builtin b=>j4 P own b c.argTypes.toList mem rs args
  |_=>none
 |_=>none
def Fy(C:bM)(own tk boxed raw vars:Bool)(o:Oper)(ρ:Operand->Option AV)(mem:aK)(rs:Nat):Option cU:=
 bif bJ own ρ mem o.op then Fw P own tk o ρ mem rs else Lg P C boxed raw vars o ρ mem rs
structure Tr where
 i:Nat
 rd:List Nat
 wr:List Nat
 push:Bool
 rc:Bool
 wk:Nat->Bool
def nB:AV->Option (Nat×Nat×Nat×Nat)
 | .ptr b g i c=>some (b,g,i,c)
 |_=>none
def f7(x:bG):Option (Nat×Nat×List (Option (Nat×Nat×Nat×Nat))):=
 match x.row with
 | .cells e cs=>some (x.gen,e,cs.map nB)
 |_=>none
def a5(mem:aK)(b:Nat):Option (Nat×Nat×List (Option (Nat×Nat×Nat×Nat))):=
 match mem[b]? with
 |some (some x)=>f7 x
 |_=>none
def P6(x y:Option (Nat×Nat×Nat×Nat)):Bool:=
 match x,y with
 |none,none=>true
 |some (a,b,c,d),some (a',b',c',d')=>Nat.beq a a'&&Nat.beq b b'&&Nat.beq c c'&&Nat.beq d d'
 |_,_=>false
def N0:List (Option (Nat×Nat×Nat×Nat))->List (Option (Nat×Nat×Nat×Nat))->Bool
 | [],[]=>true
 |x::xs,y::ys=>P6 x y&&N0 xs ys
 |_,_=>false
def GW(x y:Option (Nat×Nat×List (Option (Nat×Nat×Nat×Nat)))):Bool:=
 match x,y with
 |some (g,e,l),some (g',e',l')=>Nat.beq g g'&&Nat.beq e e'&&N0 l l'
 |_,_=>false
def n8(mem:aK)(wr:List (Nat×bG))(b:Nat):Bool:=wr.all λq=>!(Nat.beq q.1 b)||GW (f7 q.2) (a5 mem b)
def Kf:Op->Bool
 | .load _ _=>true
 |_=>false
def Mo(op:Op)(mem:aK)(v:AV)(rd:List Nat):Bool:=
 Kf op&&(match nB v with|some _=>true|none=>false)&&(match rd with| [b]=>(match a5 mem b with|some _=>true|none=>false)|_=>false)
def JZ(L:Nat)(all:List Tr)(b:Nat):Bool:=Nat.blt b L&&all.all λu=>!(dL b u.wr)||u.wk b
def FC(L:Nat)(all:List Tr)(t:Tr):Tr:=bif t.rc&&(match t.rd with| [b]=>JZ L all b|_=>false)then{t with rd:= []}else t
variable [b3]
def Cg(tmps:List AV)(t:Nat):Option AV:=(dW tmps t).bind λv=>bif fB v then none else some v
def bW(tmps:List AV):Operand->Option AV
 | .tmp t=>Cg tmps t
 | .const v=>vS v
 | .func f=>some (.fn (.func f) [] [])
 | .global g=>(b3.tab g).map λq=> .el true (.agg [.lit (.int .i64 q.1),.lit (.int .i64 q.2)]) 0
def k9(tmps:List AV)(dst:Option Tmp)(v:AV):List AV:=
 match dst with
 |some d=>pE v tmps d
 |none=>tmps
def dJ:Op->Bool
 | .move x| .assign x=>iS x
 | .alloc _| .box _ _| .buildSlice _ _ _| .convert _ _ _| .makeSlice _ _ _=>true
 | .call {callee:= .builtin .append,..}=>true
 |_=>false
def nJ:List Oper->Nat
 | []=>0
 |o::r=>(bif dJ o.op then 1 else 0)+nJ r
def wF(mem:aK)(rs:Nat):Bool:=
 match mem[rs]? with
 |some none=>true
 |_=>false
def Lk:Option bG->Bool
 |none=>true
 |some _=>false
def trim:aK->aK
 | []=> []
 |x::r=>match trim r with
  | []=>bif Lk x then []else [x]
  |y=>x::y
def cU.tr(mk:Bool)(rs:Nat)(o:cU)(i:Nat)(op:Op)(mem:aK):Tr:={i,rc:=Mo op mem o.v o.rd,wk:=n8 mem o.wr,rd:=o.rd,wr:=bif mk then rs::o.wr.map (·.1)else o.wr.map (·.1),push:=match o.push with| []=>false|_=>true}
variable {R:Type}
def Aq(a b:Nat):List (Nat×Nat×Int)->Option Int
 | []=>none
 |(m,x,v)::r=>bif Nat.beq m a&&Nat.beq x b then some v else Aq a b r
def wK(h:Option Int)(v:AV)(k:AV->Option R):Option R:=
 match h with
 |none=>k v
 |some x=>match v with
  | .lit (.int kd y)=>guardB (decide (y=x)) (k (.lit (.int kd x)))
  | .lit (.bool b)=>bif decide (x=0)then guardB (!b) (k (.lit (.bool false)))else guardB b (k (.lit (.bool true)))
  |v=>k v
def qI(C:bM)(an:kQ)(tk:Bool)(rid:Nat)(ds:List (Option Tmp)):List Oper->Nat->Nat->St->List Tr->(St->List Tr->Option R)->Option R
 | [],_,_,st,tr,k=>k st tr
 |o::rest,i,rs,st,tr,k=>
  let rs':=bif dJ o.op then rs+1 else rs
  let run (st:St):Option R:=guardB (bif dJ o.op then wF st.mem rs else true) ((Fy P C (bD rid i an.own) tk (bD rid i an.boxed) (bD rid i an.raw) (bD rid i an.vars) o (bW st.tmps) st.mem rs).bind λout=>
   wK (Aq rid i an.hint) out.v λv=>qI C an tk rid ds rest (i+1) rs' {tmps:=k9 st.tmps o.dst v,mem:=out.apply st.mem} (out.tr (dJ o.op) rs i o.op st.mem::tr) k)
  let skip (st:St):Option R:=qI C an tk rid ds rest (i+1) rs' {tmps:=k9 st.tmps o.dst (.lit undef),mem:=st.mem} tr k
  match o.guard with
  |none=>run st
  |some (j,want)=>
   match ds[j]? with
   |some (some d)=>
    match dW st.tmps d with
    |some (.lit (.bool b))=>
     bif b then(bif want then run else skip) {st with tmps:=pE (.lit (.bool true)) st.tmps d}
     else(bif want then skip else run) {st with tmps:=pE (.lit (.bool false)) st.tmps d}
    |some (.lit (.tuple _))=>skip st
    |_=>none
   |_=>none
def AJ(acc:List Nat):List Edge->Nat
 | []=>0
 |e::r=>bif Region.binds .any e then 2 ^ e.on ||| acc.getD e.on 0 ||| AJ acc r else AJ acc r
def q9:List Oper->List Nat->List Nat
 | [],acc=>acc
 |o::r,acc=>q9 r (acc++ [AJ acc o.after.toList])
def zN(i:Nat):List Edge->Bool
 | []=>true
 |e::r=>(!(Region.binds .any e)||Nat.blt e.on i)&&zN i r
def iC:List Oper->Nat->Bool
 | [],_=>true
 |o::r,i=>zN i o.after.toList&&iC r (i+1)
def cN(bs:List Nat)(i j:Nat):Bool:=(bs.getD j 0).testBit i||(bs.getD i 0).testBit j
def zJ(ops:Array Oper)(i j:Nat):Bool:=
 match ops[i]?,ops[j]? with
 |some x,some y=>x.apart ops y
 |_,_=>false
def NX(bs:List Nat)(L:Nat)(a:Tr):List Tr->Bool
 | []=>true
 |b::r=>(cN bs a.i b.i||(!(a.push&&b.push)&&rI a.wr b.rd&&rI a.rd b.wr&&rI a.wr b.wr&&(!a.push||(e6 L b.rd&&e6 L b.wr))&&(!b.push||(e6 L a.rd&&e6 L a.wr))))&&NX bs L a r
def LB(bs:List Nat)(L:Nat):List Tr->Bool
 | []=>true
 |a::r=>NX bs L a r&&LB bs L r
def j9(o:Oper):Bool:=
 match o.op with
 | .call c=>(match c.callee with| .builtin _=>false|_=>true)
 |_=>false
def sU(bs:List Nat)(i:Nat):List Oper->Nat->Bool
 | [],_=>true
 |o::r,j=>(Nat.beq i j||cN bs i j||!(j9 o))&&sU bs i r (j+1)
def Gz(ops:Array Oper)(bs:List Nat):List Tr->Bool
 | []=>true
 |a::r=>(!a.push||sU bs a.i ops.toList 0)&&Gz ops bs r
def zQ(ops:Array Oper)(bs:List Nat)(i:Nat):List Nat->Bool
 | []=>true
 |j::r=>(cN bs i j||zJ ops i j)&&zQ ops bs i r
def Ac(ops:Array Oper)(bs:List Nat):List Nat->Bool
 | []=>true
 |i::r=>zQ ops bs i r&&Ac ops bs r
def GF(ops:Array Oper)(L:Nat)(tr:List Tr):Bool:=
 let bs:=q9 ops.toList []
 iC ops.toList 0&&LB bs L (tr.map (FC L tr))&&Gz ops bs tr&&Ac ops bs (nS 0 ops.size)
def gQ(C:bM)(an:kQ)(rid:Nat)(ops:Array Oper)(draw:Bool)(st:St)(k:St->Option R):Option R:=
 qI P C an (!draw) rid (ops.toList.map (·.dst)) ops.toList 0 st.mem.length {st with mem:=st.mem++List.replicate (nJ ops.toList) none} [] λst' tr=>
  guardB (!draw||GF ops (st.mem.length+nJ ops.toList) tr) (k {st' with mem:=trim st'.mem})
inductive Ex where
 |normal|exit (id:Nat)|ret|goto (l:Nat)
def bK(live:List Nat):List AV->Nat->List AV
 | [],_=> []
 |v::r,i=>(bif dL i live then v else .goneV)::bK live r (i+1)
def Jq(keep:Bool)(old:List (Option Bool))(live:List Nat)(st:St):Option St:=
 (qV keep old (bK live st.tmps 0) st.mem).map λq=>{tmps:=q.1,mem:=q.2}
def iP(keep:Bool)(old:List (Option Bool))(live:List Nat)(body:St->(Ex->St->Option R)->Option R):Nat->St->(Ex->St->Option R)->Option R
 |0,_,_=>none
 |n+1,st,k=>(Jq keep old live st).bind λst1=>body st1 λe st'=>
  match e with
  | .normal=>iP keep old live body n st' k
  | .exit id=>k (.exit id) st'
  | .ret=>k .ret st'
  | .goto l=>k (.goto l) st'
def MU(mem:aK)(off:Nat):AV->Option AV
 | .ptr b g i c=>(box? mem b g).bind λx=>match x.row with
  | .cells e cs=>cs[i*e+c+off]?
  |_=>none
 |v=>some v
def Ft(mem:aK)(s:AV)(n c:Nat):Option aK:=
 match s with
 | .msw b g=>(boxO? mem b g).bind λbx=>match bx.row with
  | .own e xs hs=>(mJ true xs n c (.sl 0 0) hs mem.length).map λr=>mem.set b (some {bx with row:= .own e xs r.2.1})++eA r.2.2
  |_=>none
 |_=>none
def AI(mem:aK)(off:Nat):AV->Option aK
 | .ptr b g i c=>(box? mem b g).bind λx=>match x.row with
  | .cells e cs=>(match cs[i*e+c+off]? with
   |some (.msw b1 g1)=>(box? mem b1 g1).map λy=>mem.set b (some {gen:=x.gen,frz:=x.frz,row:= .cells e (cs.set (i*e+c+off) (.ms b1 g1 0 y.row.len))})
   |_=>some mem)
  |_=>none
 |_=>none
def IP(tmps:List AV)(mem:aK)(q:Operand×Nat×Operand×Nat):Option aK:=
 (bW tmps q.1).bind λp=>bif Nat.beq q.2.2.2 999 then AI mem q.2.1 p else(MU mem q.2.1 p).bind λs=>(bW tmps q.2.2.1).bind λv=>
  match v with
  | .lit (.int _ n)=>guardB (decide (0≤n)) (Ft mem s n.toNat q.2.2.2)
  |_=>none
def Bh(tmps:List AV):List (Operand×Nat×Operand×Nat)->aK->Option aK
 | [],mem=>some mem
 |q::r,mem=>(IP tmps mem q).bind λmem'=>Bh tmps r mem'
def wI(an:kQ)(rid:Nat)(old:List (Option Bool))(st:St):Option St:=
 match cP rid an.tidy with
 |none=>some st
 |some q=>(Bp old.length (bK q.1 st.tmps 0) st.mem).bind λmem=>(Bh (bK q.1 st.tmps 0) q.2 mem).map λmem'=>{tmps:=bK q.1 st.tmps 0,mem:=mem'}
def bO(l:Nat):Nat:=500+l
def HV(l:Nat)(k:Ex->St->Option R):Ex->St->Option R:=λe st'=>
 match e with
 | .goto l'=>bif Nat.beq l' l then k .normal st' else none
 | .exit j=>k (.exit j) st'
 | .ret=>k .ret st'
 | .normal=>none
def b7(C:bM)(an:kQ)(n:Nat)(old:List (Option Bool)):Code->Nat->St->(Ex->St->Option R)->Option R
 | .skip,_,st,k=>k .normal st
 | .ret,_,st,k=>k .ret st
 | .exit id,_,st,k=>k (.exit id) st
 | .seq a b,bid,st,k=>b7 C an n old a bid st λe st'=>
  match e with
  | .normal=>b7 C an n old b bid st' k
  | .exit id=>k (.exit id) st'
  | .ret=>k .ret st'
  | .goto l=>k (.goto l) st'
 | .cond c x y,bid,st,k=>
  match bW st.tmps c with
  |some (.lit (.bool t))=>bif t then b7 C an n old x bid st k else b7 C an n old y bid st k
  |some (.imm true (.lit (.bool false)))=>amb (b7 C an n old x bid st k) (b7 C an n old y bid st k)
  |_=>none
 | .block id c,_,st,k=>b7 C an n old c id st λe st'=>
  match e with
  | .normal=>k .normal st'
  | .exit j=>bif Nat.beq j id then k .normal st' else k (.exit j) st'
  | .ret=>k .ret st'
  | .goto l=>k (.goto l) st'
 | .loop c,bid,st,k=>(cP bid an.live).bind λlive=>iP (dL bid an.keep) old live (λst k=>b7 C an n old c bid st k) n st k
 | .region rid ops draw,_,st,k=>(wI an rid old st).bind λst=>gQ P C an rid ops draw st (λst'=>k .normal st')
 | .goto l,_,st,k=>k (.goto l) st
 | .scope (.seq (.region r1 o1 d1) (.seq (.region r2 o2 d2) (.seq (.label l) b))),_,st,k=>
  (wI an r1 old st).bind λst=>gQ P C an r1 o1 d1 st λst=>
  (wI an r2 old st).bind λst=>gQ P C an r2 o2 d2 st λst=>
  (cP (bO l) an.live).bind λlive=>iP (dL (bO l) an.keep) old live (λst k=>b7 C an n old b (bO l) st (HV l k)) n st k
 |_,_,_,_=>none
def Cf(tmps:List AV)(mem:aK):List ResultVar->Option (List AV)
 | []=>some []
 | .tmp t::r=>(Cg tmps t).bind λv=>(Cf tmps mem r).map (v:: ·)
 | .cell a t::r=>(Cg tmps a).bind λa=>(iA P t mem a).bind λo=>(Cf tmps mem r).map (o.v:: ·)
def sH:List AV->AV
 | [v]=>v
 |vs=> .tup vs
def Eg(fn:Func)(old:List (Option Bool))(e:Ex)(st:St):Option (AV×aK):=
 match e with
 | .exit _=>none
 | .goto _=>none
 |_=>(Cf P st.tmps st.mem fn.results.toList).bind λvs=>(qV true old [sH vs] st.mem).bind λq=>
  match q.1 with
  | [v]=>some (v,q.2)
  |_=>none
end
end
end Go.Ab
end
section
namespace Go.Ab
abbrev cl(w:World)(B o:Nat):Option Value:=w.cell? ⟨B,o,none⟩
inductive PR (w:World) (pr:Nat->Nat->Prop):PV->Value->Prop
 |lit (v:Value) (h:v.oneCell'=true):PR w pr (.lit v) v
 |intsNil (k:IntKind) (a:Option Addr):PR w pr (.ints k []) (.slice a 0 0)
 |ints (k:IntKind) (xs:List Int) (B o cap:Nat) (hcap:xs.length≤cap)
   (h: ∀i x,xs[i]?=some x->cl w B (o+i)=some (.int k x)/\pr B (o+i)):PR w pr (.ints k xs) (.slice (some ⟨B,o,none⟩) xs.length cap)
 |slNil (e:Nat) (a:Option Addr):PR w pr (.sl e []) (.slice a 0 0)
 |sl (e:Nat) (xs:List PV) (B o cap:Nat) (cv:Nat->Nat->Value) (he:1≤e) (hcap:xs.length≤cap) (hlen: ∀x∈xs,x.cells.length=e)
   (h: ∀i x c y,xs[i]?=some x->x.cells[c]?=some y->cl w B (o+i*e+c)=some (cv i c)/\pr B (o+i*e+c))
   (h1: ∀i x c y,xs[i]?=some x->x.cells[c]?=some y->(cv i c).oneCell'=true)
   (hr: ∀i x c y,xs[i]?=some x->x.cells[c]?=some y->PR w pr y (cv i c)):PR w pr (.sl e xs) (.slice (some ⟨B,o,none⟩) xs.length cap)
 |agg (cs:List PV) (cvs:Array Value) (hlen:cs.length=cvs.size) (h: ∀j y,cs[j]?=some y->PR w pr y (cvs.getD j undef)):PR w pr (.agg cs) (.agg cvs)
def PV.isSl:PV->Bool
 | .ints _ _=>true
 | .sl _ _=>true
 |_=>false
structure BI where
 blk:Option Nat
 e:Nat
 n:Nat
 off:Nat
structure Gh where
 loc:Nat->Nat->Option BI
 prot:Bool->Nat->Nat->Prop
 mine:Nat->Prop
def AQ(w:World)(B k:Nat):Prop:= ∀j,j<k->(cl w B j).isSome=true
inductive VR (G:Gh) (w:World):AV->Value->Prop
 |lit (v:Value) (h:kI v=true):VR G w (.lit v) v
 |imm (β:Bool) (p:PV) (v:Value) (h:PR w (G.prot β) p v) (hs:p.isSl=true):VR G w (.imm β p) v
 |unkB (b:Bool):VR G w (.imm true (.lit (.bool false))) (.bool b)
 |dead (v:Value) (h1:v.oneCell'=true) (h2:kI v=true):VR G w (.imm false (.agg [])) v
 |ptr (b g i c:Nat) (L:BI) (B:Nat) (hl:G.loc b g=some L) (hb:L.blk=some B):VR G w (.ptr b g i c) (.pointer (some ⟨B,L.off+(i*L.e+c),none⟩))
 |ms (b g o n cap:Nat) (L:BI) (B:Nat) (hl:G.loc b g=some L) (hb:L.blk=some B) (hn:n≤cap) (hon:o+n≤L.n) (hf:AQ w B (L.off+(o+cap)*L.e)):
   VR G w (.ms b g o n) (.slice (some ⟨B,L.off+o*L.e,none⟩) n cap)
 |msNil (b g:Nat) (L:BI) (hl:G.loc b g=some L) (hb:L.blk=none):VR G w (.ms b g 0 0) (.slice none 0 0)
 |msZ (b g o B oo:Nat) (L:BI) (hl:G.loc b g=some L) (hb:L.blk=some B) (ho:1≤o) (hon:o≤L.n):VR G w (.ms b g o 0) (.slice (some ⟨B,oo,none⟩) 0 0)
 |msw (b g cap:Nat) (L:BI) (B:Nat) (hl:G.loc b g=some L) (hb:L.blk=some B) (hn:L.n≤cap) (hf:AQ w B (L.off+cap*L.e)):
   VR G w (.msw b g) (.slice (some ⟨B,L.off,none⟩) L.n cap)
 |mswNil (b g:Nat) (L:BI) (hl:G.loc b g=some L) (hb:L.blk=none) (hn:L.n=0):VR G w (.msw b g) (.slice none 0 0)
 |el (β:Bool) (p:PV) (c B o:Nat) (cv:Nat->Value)
   (h: ∀j y,p.cells[j]?=some y->cl w B (o+j)=some (cv j)/\G.prot β B (o+j))
   (hr: ∀j y,p.cells[j]?=some y->PR w (G.prot β) y (cv j)):VR G w (.el β p c) (.pointer (some ⟨B,o+c,none⟩))
 |fn (f:Fn) (fi ca:List AV) (fv cv:Array Value) (h1:fi.length=fv.size) (h2:ca.length=cv.size)
   (hf: ∀(j:Nat) (y:AV),fi[j]?=some y->VR G w y (fv.getD j undef)) (hc: ∀(j:Nat) (y:AV),ca[j]?=some y->VR G w y (cv.getD j undef)):VR G w (.fn f fi ca) (.func f fv cv)
 |agg (cs:List AV) (cvs:Array Value) (hlen:cs.length=cvs.size) (h: ∀(j:Nat) (y:AV),cs[j]?=some y->VR G w y (cvs.getD j undef)):VR G w (.agg cs) (.agg cvs)
 |tup (cs:List AV) (cvs:Array Value) (hlen:cs.length=cvs.size) (h: ∀(j:Nat) (y:AV),cs[j]?=some y->VR G w y (cvs.getD j undef)):VR G w (.tup cs) (.tuple cvs)
structure Ev (G:Gh) (w w':World):Prop where
 size:w.heap.size≤w'.heap.size
 out:w'.output=w.output
 os:w'.os=w.os
 away: ∀B,B<w.heap.size->¬G.mine B->w'.heap[B]?=w.heap[B]?
 some: ∀B o,(cl w B o).isSome=true->(cl w' B o).isSome=true
 prot: ∀β B o,G.prot β B o->cl w' B o=cl w B o
 fz: ∀B o,(cl w B o).isSome=true->w'.frozen? ⟨B,o,none⟩=w.frozen? ⟨B,o,none⟩
 tape:w'.tape=w.tape
structure cJ (G G':Gh):Prop where
 mine:G'.mine=G.mine
 prot: ∀β B o,G.prot β B o->G'.prot β B o
 loc: ∀b g L,G.loc b g=some L->G'.loc b g=some L
 new: ∀β B o,G'.prot β B o->G.prot β B o\/G.mine B
theorem cJ.refl(G:Gh):cJ G G:=⟨rfl,λ_ _ _ h=>h,λ_ _ _ h=>h,λ_ _ _ h=> .inl h⟩
theorem cJ.trans{G I J:Gh}(h:cJ G I)(H:cJ I J):cJ G J:=
 ⟨H.mine.trans h.mine,λ_ _ _ x=>H.prot _ _ _ (h.prot _ _ _ x),λ_ _ _ x=>H.loc _ _ _ (h.loc _ _ _ x),λ_ _ _ x=>(H.new _ _ _ x).elim (h.new _ _ _) (λy=> .inr (by rw[<-h.mine];exact y))⟩
theorem Ev.refl(G:Gh)(w:World):Ev G w w:=⟨ya1 _,rfl,rfl,λ_ _ _=>rfl,λ_ _ h=>h,λ_ _ _ _=>rfl,λ_ _ _=>rfl,rfl⟩
theorem Ev.trans{G I:Gh}{w J M:World}(h:Ev G w J)(K:cJ G I)(H:Ev I J M):Ev G w M where
 size:=yc2 h.size H.size
 out:=H.out.trans h.out
 os:=H.os.trans h.os
 away B hb hm:=(H.away B (yy1 hb h.size) (by rw[K.mine];exact hm)).trans (h.away B hb hm)
 some B o x:=H.some B o (h.some B o x)
 prot β B o x:=(H.prot β B o (K.prot _ _ _ x)).trans (h.prot β B o x)
 fz B o x:=(H.fz B o (h.some B o x)).trans (h.fz B o x)
 tape:=H.tape.trans h.tape
theorem Ev.of_eq{G:Gh}{w H:World}(I:H.heap=w.heap)(K:H.output=w.output)(hs:H.os=w.os)(ht:H.tape=w.tape):Ev G w H:=by
 have J: ∀a,H.cell? a=w.cell? a:=λa=>by unfold World.cell?;rw[I]
 exact⟨by rw[I];exact ya1 _,K,hs,λB _ _=>by rw[I],λB o h=>by rw[cl,J];exact h,λ_ _ _ _=>J _,λ_ _ _=>by unfold World.frozen?;rw[I],ht⟩
theorem PR.mono{w Y:World}{U M:Nat->Nat->Prop}(V: ∀B o,U B o->M B o)(W: ∀B o,U B o->cl Y B o=cl w B o)
  {p:PV} {v:Value} (h:PR w U p v):PR Y M p v:=by
 induction h with
 |lit v h=>exact .lit v h
 |intsNil k a=>exact .intsNil k a
 |ints k xs B o cap I h=>exact .ints k xs B o cap I λi x O=>⟨(W _ _ (h i x O).2).trans (h i x O).1,V _ _ (h i x O).2⟩
 |slNil e a=>exact .slNil e a
 |sl e xs B o cap cv Z I H h J hr N=>
  exact .sl e xs B o cap cv Z I H (λi x c y J K=>⟨(W _ _ (h i x c y J K).2).trans (h i x c y J K).1,V _ _ (h i x c y J K).2⟩) J (λi x c y J K=>N i x c y J K)
 |agg cs cvs H h N=>exact .agg cs cvs H λj y hy=>N j y hy
theorem AQ.mono{G:Gh}{w H:World}(I:Ev G w H){B k:Nat}(h:AQ w B k):AQ H B k:=λj J=>I.some B j (h j J)
theorem VR.mono{G G':Gh}{w w':World}(K:cJ G G')(N:Ev G w w'){a:AV}{v:Value}(h:VR G w a v):VR G' w' a v:=by
 induction h with
 |lit v h=>exact .lit v h
 |imm β p v h hs=>exact .imm β p v (h.mono (K.prot β) (N.prot β)) hs
 |unkB b=>exact .unkB b
 |dead v W Z=>exact .dead v W Z
 |ptr b g i c L B J H=>exact .ptr b g i c L B (K.loc _ _ _ J) H
 |ms b g o n cap L B J H hn M U=>exact .ms b g o n cap L B (K.loc _ _ _ J) H hn M (U.mono N)
 |msNil b g L J H=>exact .msNil b g L (K.loc _ _ _ J) H
 |msZ b g o B oo L J H ho M=>exact .msZ b g o B oo L (K.loc _ _ _ J) H ho M
 |msw b g cap L B J H hn U=>exact .msw b g cap L B (K.loc _ _ _ J) H hn (U.mono N)
 |mswNil b g L J H hn=>exact .mswNil b g L (K.loc _ _ _ J) H hn
 |el β p c B o cv h hr=>
  exact .el β p c B o cv (λj y O=>⟨(N.prot _ _ _ (h j y O).2).trans (h j y O).1,K.prot _ _ _ (h j y O).2⟩) (λj y O=>(hr j y O).mono (K.prot β) (N.prot β))
 |fn f fi ca fv cv W Z U hc Y ihc=>exact .fn f fi ca fv cv W Z Y ihc
 |agg cs cvs I h V=>exact .agg cs cvs I V
 |tup cs cvs I h V=>exact .tup cs cvs I V
def nH(G:Gh)(w:World)(as:List AV)(vs:Array Value):Prop:=as.length=vs.size/\∀(j:Nat) (y:AV),as[j]?=some y->VR G w y (vs.getD j undef)
theorem nH.mono{G H:Gh}{w I:World}(M:cJ G H)(K:Ev G w I){as:List AV}{vs:Array Value}(h:nH G w as vs):nH H I as vs:=
 ⟨h.1,λj y J=>(h.2 j y J).mono M K⟩
def fL(w:World)(B:Nat):Prop:= ∃c el lo hi,w.heap[B]?=some (.cells c el (lo,hi))/\(lo=hi\/c.size≤lo)
def En(G:Gh)(w:World)(B a:Nat):aX->Prop
 | .ints k xs=> ∀i x,xs[i]?=some x->cl w B (a+i)=some (.int k x)
 | .pvs β e xs=>(∀x∈xs,x.cells.length=e)/\∀(i:Nat) (x:PV) (c:Nat) (y:PV),xs[i]?=some x->x.cells[c]?=some y->∃v,cl w B (i*e+c)=some v/\v.oneCell'=true/\PR w (G.prot β) y v
 |_=>False
def OR(G:Gh)(w:World)(y:PV)(v:Value):Prop:=
 (∃ u, y = .lit u ∧ v = u) ∨ ∃ row, cH y = some row ∧ ((v = .slice none 0 0 ∧ row.len = 0) ∨ ∃ B' a cap, v = .slice (some ⟨B', a, none⟩) row.len cap ∧ (row.isInts = false → a = 0) ∧ row.len ≤ cap ∧ AQ w B' (a + cap * row.e) ∧
  G.mine B'/\B'<w.heap.size/\fL w B'/\En G w B' a row/\∀β o,¬G.prot β B' o)
def aH(i c:Nat):List (Nat×Nat×AV)->Option AV
 | []=>none
 |(i',c',v)::r=>if i'=i/\c'=c then some v else aH i c r
def HR(G:Gh)(w:World)(o:Option AV)(y:PV)(v:Value):Prop:=
 match o with
 |some a=>VR G w a v
 |none=>OR G w y v
def fN(G:Gh)(w:World)(B a:Nat):aX->Prop
 | .own e xs hs=>(∀h∈hs,h.1<xs.length)/\(∀x∈xs,x.cells.length=e)/\∀(i:Nat) (x:PV) (c:Nat) (y:PV),xs[i]?=some x->x.cells[c]?=some y->
   ∃v,cl w B (i*e+c)=some v/\v.oneCell'=true/\HR G w (aH i c hs) y v
 | .ints k xs=> ∀i x,xs[i]?=some x->cl w B (a+i)=some (.int k x)
 | .pvs β e xs=>(∀x∈xs,x.cells.length=e)/\∀(i:Nat) (x:PV) (c:Nat) (y:PV),xs[i]?=some x->x.cells[c]?=some y->∃v,cl w B (i*e+c)=some v/\v.oneCell'=true/\PR w (G.prot β) y v
 | .cells e cs=>cs.length=e*aP e cs.length/\∀(j:Nat) (y:AV),cs[j]?=some y->∃v,cl w B j=some v/\v.oneCell'=true/\VR G w y v
theorem fL.cell{w:World}{B:Nat}(h:fL w B){o:Nat}(H:(cl w B o).isSome=true):w.frozen? ⟨B,o,none⟩=false:=by
 obtain⟨c,el,lo,hi,I,hf⟩:=h;unfold cl World.cell? at H;simp only[I,Option.isSome_none,yl2,if_false]at H;have J:o<c.size:=by
  rcases yd2 o c.size with h|h
  ·exact h
  ·rw[Array.getElem?_eq_none h]at H;cases H
 unfold World.frozen?;simp only[I,Bool.and_eq_false_iff,decide_eq_false_iff_not];omega
theorem fL.of_heap{w H:World}{B:Nat}(h:fL w B)(M:H.heap[B]?=w.heap[B]?):fL H B:=by
 obtain⟨c,el,K,N,J,I⟩:=h;exact⟨c,el,K,N,by rw[M];exact J,I⟩
structure ON (G:Gh) (w:World) (b:Nat) (x:bG):Prop where
 e:1≤x.row.e
 loc: ∃o a,G.loc b x.gen=some ⟨o,x.row.e,x.row.len,a⟩/\(x.row.isInts=false->a=0)/\
  match o with
  |none=>x.row.len=0/\x.row.isCells=false
  |some B=>G.mine B/\B<w.heap.size/\fL w B/\fN G w B a x.row/\(x.frz=false->∀β o,¬G.prot β B o)
def d5(G:Gh)(b:Nat)(x:bG)(B:Nat):Prop:= ∃L,G.loc b x.gen=some L/\L.blk=some B
def cA(w:World)(B:Nat)(r:aX)(i c B':Nat):Prop:=
 match r with
 | .own e xs hs=>(∃x y row,xs[i]?=some x/\x.cells[c]?=some y/\cH y=some row)/\aH i c hs=none/\∃a n cap,cl w B (i*e+c)=some (.slice (some ⟨B',a,none⟩) n cap)
 |_=>False
theorem cA.own{w:World}{B:Nat}{r:aX}{i c B':Nat}(h:cA w B r i c B'):r.isOwn=true:=by
 cases r<;>first|rfl|cases h
def iF(G:Gh)(w:World)(mem:aK)(b B':Nat):Prop:= ∃(b':Nat) (y:bG) (B:Nat),b'≠b/\mem[b']?=some (some y)/\d5 G b' y B/\(B'=B\/∃i c,cA w B y.row i c B')
variable [b3]
def p7(G:Gh)(w:World):Prop:= ∀(g:Nat) (q:Int×Int),b3.tab g=some q->(cl w g 0=some (.int .i64 q.1)/\G.prot true g 0)/\cl w g 1=some (.int .i64 q.2)/\G.prot true g 1
theorem p7.mono{G I:Gh}{w M:World}(h:p7 G w)(J: ∀B o,G.prot true B o->I.prot true B o)(K: ∀B o,G.prot true B o->cl M B o=cl w B o):p7 I M:=λg q H=>
 ⟨⟨(K _ _ (h g q H).1.2).trans (h g q H).1.1,J _ _ (h g q H).1.2⟩,(K _ _ (h g q H).2.2).trans (h g q H).2.1,J _ _ (h g q H).2.2⟩
structure aI (G:Gh) (w:World) (mem:aK):Prop where
 box: ∀(b:Nat) (x:bG),mem[b]?=some (some x)->ON G w b x
 unset: ∀b g,(∀x:bG,mem[b]?≠some (some x))->G.loc b g=none
 gens: ∀(b:Nat) (x:bG) (g:Nat),mem[b]?=some (some x)->x.gen<g->G.loc b g=none
 apart: ∀(b b':Nat) (x x':bG) (L L':BI) (B:Nat),mem[b]?=some (some x)->mem[b']?=some (some x')->G.loc b x.gen=some L->G.loc b' x'.gen=some L'->
  L.blk=some B->L'.blk=some B->b=b'
 inA: ∀(b b':Nat) (x x':bG) (B i c B':Nat),mem[b]?=some (some x)->d5 G b x B->cA w B x.row i c B'->mem[b']?=some (some x')->¬d5 G b' x' B'
 inB: ∀(b b':Nat) (x x':bG) (B C i c i' c' B':Nat),mem[b]?=some (some x)->d5 G b x B->cA w B x.row i c B'->mem[b']?=some (some x')->d5 G b' x' C->cA w C x'.row i' c' B'->b=b'/\i=i'/\c=c'
 own: ∀B,w.heap.size≤B->G.mine B
 lab: ∀B o,G.prot false B o->G.prot true B o
 away: ∀β B o,G.prot β B o->B<w.heap.size
 glob:p7 G w
def Lm(w w':World)(B:Nat):Prop:=(∀o,cl w' B o=cl w B o)/\(fL w B->fL w' B)
theorem Lm.of{w H:World}{B:Nat}(h:H.heap[B]?=w.heap[B]?):Lm w H B:=⟨λo=>by unfold cl World.cell?;simp only[h],λI=>I.of_heap h⟩
theorem En.mono{G K:Gh}{w J:World}(Y:cJ G K)(O:Ev G w J){B a:Nat}(H: ∀o,(cl w B o).isSome=true->cl J B o=cl w B o){r:aX}(h:En G w B a r):En K J B a r:=by
 cases r with
 |ints k xs=>exact λi x M=>by rw[H (a+i) (by rw[h i x M];rfl)];exact h i x M
 |pvs β e xs=>
  refine⟨h.1,λi x c y U V=>?_⟩;obtain⟨v,N,I,W⟩:=h.2 i x c y U V;exact⟨v,by rw[H _ (by rw[N];rfl)];exact N,I,W.mono (Y.prot β) (O.prot β)⟩
 |cells e cs=>cases h
 |own e xs hs=>cases h
theorem OR.mono{G J:Gh}{w M:World}(N:cJ G J)(I:Ev G w M){y:PV}{v:Value}(h:OR G w y v)
  (K: ∀B' a n cap,(∃row,cH y=some row)->v= .slice (some ⟨B',a,none⟩) n cap->Lm w M B'/\∀β o,¬J.prot β B' o):OR J M y v:=by
 rcases h with h|⟨row,H,h⟩
 ·exact .inl h
 ·refine .inr ⟨row,H,?_⟩;rcases h with h|⟨B',a,cap,U,h0,W,h2,Z,Y,h5,V,h7⟩
  ·exact .inl h
  ·obtain⟨O,hp⟩:=K B' _ _ _ ⟨row,H⟩ U;exact .inr ⟨B',a,cap,U,h0,W,h2.mono I,by rw[N.mine];exact Z,yy1 Y I.size,O.2 h5,V.mono N I (λo _=>O.1 o),hp⟩
theorem fN.mono{G Y:Gh}{w W:World}(V:cJ G Y)(N:Ev G w W){B a:Nat}(H: ∀o,(cl w B o).isSome=true->cl W B o=cl w B o){r:aX}
  (Z: ∀i c B',cA w B r i c B'->Lm w W B'/\∀β o,¬Y.prot β B' o) (h:fN G w B a r):fN Y W B a r:=by
 cases r with
 |ints k xs=>exact λi x hx=>by rw[H (a+i) (by rw[h i x hx];rfl)];exact h i x hx
 |pvs β e xs=>
  refine⟨h.1,λi x c y O U=>?_⟩;obtain⟨v,K,I,M⟩:=h.2 i x c y O U;exact⟨v,by rw[H _ (by rw[K];rfl)];exact K,I,M.mono (V.prot β) (N.prot β)⟩
 |cells e cs=>
  refine⟨h.1,λj y hy=>?_⟩;obtain⟨v,K,I,M⟩:=h.2 j y hy;exact⟨v,by rw[H _ (by rw[K];rfl)];exact K,I,M.mono V N⟩
 |own e xs hs=>
  refine⟨h.1,h.2.1,λi x c y O U=>?_⟩;obtain⟨v,K,I,M⟩:=h.2.2 i x c y O U;refine⟨v,by rw[H _ (by rw[K];rfl)];exact K,I,?_⟩;cases ho:aH i c hs with
  |some a=>rw[ho]at M;exact VR.mono V N M
  |none=>
   rw[ho]at M;refine OR.mono V N M λB' a' n cap J hvv=>?_;obtain⟨row,J⟩:=J;exact Z i c B' ⟨⟨x,y,row,O,U,J⟩,ho,a',n,cap,by rw[K,hvv]⟩
theorem aI.blk{G:Gh}{w:World}{mem:aK}(hM:aI G w mem){b:Nat}{x:bG}{B:Nat}(N:mem[b]?=some (some x))(hB:d5 G b x B):
  ∃a,G.loc b x.gen=some ⟨some B,x.row.e,x.row.len,a⟩/\(x.row.isInts=false->a=0)/\G.mine B/\B<w.heap.size/\fL w B/\fN G w B a x.row/\(x.frz=false->∀β o,¬G.prot β B o):=by
 obtain⟨L,M,K⟩:=hB;obtain⟨o,O,H,J,hm⟩:=(hM.box b x N).loc;have I:=M;rw[H]at I;obtain rfl:=ya I;simp only at K;subst K;exact⟨O,H,J,hm⟩
theorem aI.blkSz{G:Gh}{w:World}{mem:aK}(hM:aI G w mem){b:Nat}{x:bG}{B:Nat}(H:mem[b]?=some (some x))(hB:d5 G b x B):B<w.heap.size:=
 let ⟨_,_,_,_,h,_⟩:=hM.blk H hB;h
theorem aI.inn{G:Gh}{w:World}{mem:aK}(hM:aI G w mem){b:Nat}{x:bG}{B i c B':Nat}(hx:mem[b]?=some (some x))(hB:d5 G b x B)(J:cA w B x.row i c B'):
  G.mine B'/\B'<w.heap.size/\fL w B'/\∀β o,¬G.prot β B' o:=by
 obtain⟨_,_,_,_,_,_,hr,_⟩:=hM.blk hx hB;cases H:x.row with
 |own e xs hs=>
  rw[H]at J hr;obtain⟨⟨p,y,row,O,Z,Y⟩,ho,a',n,cap,hc⟩:=J;obtain⟨v,I,_,K⟩:=hr.2.2 i p c y O Z;rw[ho]at K;rw[hc]at I;obtain rfl:=ya I;rcases K with ⟨u,V,_⟩|⟨row',M,K⟩
  ·subst V;simp[cH]at Y
  ·rcases K with ⟨hn,_⟩|⟨B2,a2,N,I,_,_,_,W,m2,U,_,m4⟩
   ·cases hn
   ·simp only[Value.slice.injEq,Option.some.injEq,Addr.mk.injEq,true_and,and_true]at I;obtain⟨⟨rfl,_⟩,_⟩:=I;exact⟨W,m2,U,m4⟩
 |_=>rw[H]at J;cases J
theorem aI.other{G:Gh}{w:World}{mem:aK}(hM:aI G w mem){b B':Nat}(h:iF G w mem b B'):G.mine B'/\B'<w.heap.size/\fL w B':=by
 obtain⟨b',y,B,_,K,hB,h⟩:=h;rcases h with rfl|⟨i,c,M⟩
 ·obtain⟨_,_,_,H,J,I,_⟩:=hM.blk K hB;exact⟨H,J,I⟩
 ·obtain⟨H,J,I,_⟩:=hM.inn K hB M;exact⟨H,J,I⟩
theorem aI.other_ne{G:Gh}{w:World}{mem:aK}(hM:aI G w mem){b B B':Nat}{x:bG}(N:mem[b]?=some (some x))(hB:d5 G b x B)(h:iF G w mem b B'):B'≠B:=by
 rintro rfl
 obtain⟨K,y,C,J,M,hC,h⟩:=h;rcases h with rfl|⟨i,c,V⟩
 ·obtain⟨L,W,U⟩:=hB;obtain⟨O,H,I⟩:=hC;exact J (hM.apart K b y x O L _ M N H W I U)
 ·exact hM.inA K b y x C i c _ M hC V N hB
theorem aI.other_inn{G:Gh}{w:World}{mem:aK}(hM:aI G w mem){b B i c B':Nat}{x:bG}(N:mem[b]?=some (some x))(hB:d5 G b x B)(J:cA w B x.row i c B'): ¬iF G w mem b B':=by
 rintro⟨K,y,C,I,M,hC,h⟩
 rcases h with rfl|⟨U,O,H⟩
 ·exact hM.inA b K x y B i c _ N hB J M hC
 ·exact I (hM.inB b K x y B C i c U O B' N hB J M hC H).1.symm
end Go.Ab
end
section
namespace Go.Ab
variable [b3]
theorem cX{w H:World}{B:Nat}(h:H.heap[B]?=w.heap[B]?)(o:Nat):cl H B o=cl w B o:=by
 unfold cl World.cell?;simp only[h]
theorem Dl{w H:World}{B:Nat}(h:H.heap[B]?=w.heap[B]?)(o:Nat):H.frozen? ⟨B,o,none⟩=w.frozen? ⟨B,o,none⟩:=by
 unfold World.frozen?;simp only[h]
theorem Fh{w:World}{B o:Nat}(h:(cl w B o).isSome=true):B<w.heap.size:=by
 obtain⟨u,H⟩:=Option.isSome_iff_exists.1 h;exact World.block_lt_of_cell? (a:=⟨B,o,none⟩) _ H
def Gh.put(G:Gh)(b g:Nat)(L:BI):Gh:={G with loc:=λb' g'=>if b'=b/\g'=g then some L else G.loc b' g'}
theorem Gh.put_self(G:Gh)(b g:Nat)(L:BI):(G.put b g L).loc b g=some L:=by simp[Gh.put]
theorem Gh.put_ne(G:Gh){b g H g':Nat}(L:BI)(h: ¬(H=b/\g'=g)):(G.put b g L).loc H g'=G.loc H g':=by simp[Gh.put,h]
theorem cJ.put{G:Gh}{b g:Nat}{L:BI}(h:G.loc b g=none\/G.loc b g=some L):cJ G (G.put b g L):=by
 refine⟨rfl,λ_ _ _ x=>x,λI g' L' H=>?_,λ_ _ _ x=> .inl x⟩;by_cases e:I=b/\g'=g
 ·obtain⟨rfl,rfl⟩:=e;rw[Gh.put_self];rcases h with h|h<;>rw[h]at H<;>simp_all
 ·rw[Gh.put_ne _ _ e];exact H
structure FR (G:Gh) (w w1:World) (mem:aK) (b:Nat) (x':bG) (L:BI):Prop where
 other: ∀B',iF G w mem b B'->w1.heap[B']?=w.heap[B']?
 apart: ∀B,L.blk=some B->¬iF G w mem b B
 self: ∀B,L.blk=some B->∀i c B',cA w1 B x'.row i c B'->¬iF G w mem b B'/\B'≠B
 inj: ∀B,L.blk=some B->∀i c i2 c2 B',cA w1 B x'.row i c B'->cA w1 B x'.row i2 c2 B'->i=i2/\c=c2
theorem FR.plain{G:Gh}{w H:World}{mem:aK}{b:Nat}{x':bG}{L:BI}(I:x'.row.isOwn=false)(K: ∀B',iF G w mem b B'->H.heap[B']?=w.heap[B']?)(J: ∀B,L.blk=some B->¬iF G w mem b B):FR G w H mem b x' L:=
 ⟨K,J,λB _ i c B' h=>absurd h.own (by rw[I];decide),λB _ i c i2 c2 B' h _=>absurd h.own (by rw[I];decide)⟩
theorem cA.same{w H:World}{B:Nat}{r:aX}{i c B':Nat}(h:cA H B r i c B')(hs: ∀o,cl H B o=cl w B o):cA w B r i c B':=by
 cases r with
 |own e xs hs'=>obtain⟨I,K,a,n,cap,J⟩:=h;exact⟨I,K,a,n,cap,by rw[<-hs];exact J⟩
 |_=>cases h
theorem iF.at{G:Gh}{w:World}{mem:aK}{b H:Nat}{y:bG}{B:Nat}(I:H≠b)(J:mem[H]?=some (some y))(hB:d5 G H y B):iF G w mem b B:=⟨H,y,B,I,J,hB,.inl rfl⟩
theorem iF.inn{G:Gh}{w:World}{mem:aK}{b H:Nat}{y:bG}{B i c B':Nat}(I:H≠b)(J:mem[H]?=some (some y))(hB:d5 G H y B)(K:cA w B y.row i c B'):iF G w mem b B':=⟨H,y,B,I,J,hB,.inr ⟨i,c,K⟩⟩
theorem aI.upd{G:Gh}{w w1:World}{mem:aK}{b:Nat}{x':bG}{L:BI}(hM:aI G w mem)(hev:Ev G w w1)(hb:b<mem.length)
  (hput:G.loc b x'.gen=none\/G.loc b x'.gen=some L) (M:FR G w w1 mem b x' L)
  (hgen: ∀g,x'.gen<g->G.loc b g=none)
  (hbox:ON (G.put b x'.gen L) w1 b x'):aI (G.put b x'.gen L) w1 (mem.set b (some x')):=by
 have hg:=cJ.put hput;have J: ∀(K:Nat) (y:bG),(mem.set b (some x'))[K]?=some (some y)->(K=b/\y=x')\/(K≠b/\mem[K]?=some (some y)):=by
  intro K y h;by_cases e:K=b
  ·subst e;rw[yw hb]at h;left;exact⟨rfl,by simpa using h.symm⟩
  ·rw[yp (λx=>e x.symm)]at h;right;exact⟨e,h⟩
 have I: ∀{B:Nat},d5 (G.put b x'.gen L) b x' B->L.blk=some B:=by
  rintro B ⟨L1,l1,k1⟩
  rw[Gh.put_self]at l1;obtain rfl:=ya l1;exact k1
 have H: ∀{K:Nat} {y:bG} {B:Nat},K≠b->d5 (G.put b x'.gen L) K y B->d5 G K y B:=by
  rintro K y B e ⟨L1,l1,k1⟩
  rw[Gh.put_ne _ _ (λx=>e x.1)]at l1;exact⟨L1,l1,k1⟩
 have Y: ∀{K:Nat} {y:bG} {B:Nat},K≠b->mem[K]?=some (some y)->d5 G K y B->∀o,cl w1 B o=cl w B o:=λe hy hB o=>cX (M.other _ (.at e hy hB)) o;refine⟨λK y h=>?_,λK g h=>?_,λK y g h hlt=>?_,λb1 b2 y1 y2 L1 L2 B h1 h2 l1 l2 k1 N=>?_,λb1 b2 y1 y2 B i c B' h1 k1 hi h2 N=>?_,λb1 b2 y1 y2 B C i c i' c' B' h1 k1 hi h2 N hi'=>?_,λB h=>hM.own B (yc2 hev.size h),hM.lab,fun β B o h=>yy1 (hM.away β B o h) hev.size,hM.glob.mono (hg.prot true) (hev.prot true)⟩
 ·rcases J K y h with ⟨rfl,rfl⟩|⟨e,h⟩
  ·exact hbox
  ·have hx:=hM.box K y h;obtain⟨o,a0,hl,ha0,hm⟩:=hx.loc;refine⟨hx.e,o,a0,hg.loc _ _ _ hl,ha0,?_⟩;cases o with
   |none=>exact hm
   |some B=>
    obtain⟨hm1,hm2,hm3,hm4,hm5⟩:=hm;have hB:d5 G K y B:=⟨_,hl,rfl⟩
    have hh:=M.other B (.at e h hB);exact⟨hm1,yy1 hm2 hev.size,hm3.of_heap hh,hm4.mono hg hev (λo _=>cX hh o) (λi c B' hi=>⟨.of (M.other B' (.inn e h hB hi)),(hM.inn h hB hi).2.2.2⟩),hm5⟩
 ·by_cases e:K=b
  ·subst e;exact absurd (yw hb) (h x')
  ·rw[Gh.put_ne _ _ (λx=>e x.1)];exact hM.unset K g λx hx=>h x (by rw[yp (λx=>e x.symm)];exact hx)
 ·rcases J K y h with ⟨rfl,rfl⟩|⟨e,h⟩
  ·rw[Gh.put_ne _ _ (λx=>by omega)];exact hgen g hlt
  ·rw[Gh.put_ne _ _ (λx=>e x.1)];exact hM.gens K y g h hlt
 ·rcases J b1 y1 h1 with ⟨f1,O⟩|⟨U,Z⟩<;>rcases J b2 y2 h2 with ⟨f2,V⟩|⟨W,g2⟩
  ·rw[f1,f2]
  ·subst f1 O;exact absurd (.at W g2 (H W ⟨L2,l2,N⟩)) (M.apart B (I ⟨L1,l1,k1⟩))
  ·subst f2 V;exact absurd (.at U Z (H U ⟨L1,l1,k1⟩)) (M.apart B (I ⟨L2,l2,N⟩))
  ·rw[Gh.put_ne _ _ (λx=>U x.1)]at l1;rw[Gh.put_ne _ _ (λx=>W x.1)]at l2;exact hM.apart b1 b2 y1 y2 L1 L2 B Z g2 l1 l2 k1 N
 ·rcases J b1 y1 h1 with ⟨f1,O⟩|⟨U,Z⟩<;>rcases J b2 y2 h2 with ⟨f2,V⟩|⟨W,g2⟩
  ·subst f1 O f2 V;have hB:=I k1;have h2:=I N;have h3:=hB;rw[h2]at h3;exact(M.self B hB i c B' hi).2 (ya h3)
  ·subst f1 O;exact(M.self B (I k1) i c B' hi).1 (.at W g2 (H W N))
  ·subst f2 V;have k1:=H U k1;exact M.apart B' (I N) (.inn U Z k1 (hi.same (Y U Z k1)))
  ·have k1:=H U k1;exact hM.inA b1 b2 y1 y2 B i c B' Z k1 (hi.same (Y U Z k1)) g2 (H W N)
 ·rcases J b1 y1 h1 with ⟨f1,O⟩|⟨U,Z⟩<;>rcases J b2 y2 h2 with ⟨f2,V⟩|⟨W,g2⟩
  ·subst f1 O f2 V;have hB:=I k1;have hC:=I N;rw[hB]at hC;obtain rfl:=ya hC;exact⟨rfl,M.inj B hB i c i' c' B' hi hi'⟩
  ·subst f1 O;have N:=H W N;exact absurd (.inn W g2 N (hi'.same (Y W g2 N))) (M.self B (I k1) i c B' hi).1
  ·subst f2 V;have k1:=H U k1;exact absurd (.inn U Z k1 (hi.same (Y U Z k1))) (M.self C (I N) i' c' B' hi').1
  ·have k1:=H U k1;have N:=H W N;exact hM.inB b1 b2 y1 y2 B C i c i' c' B' Z k1 (hi.same (Y U Z k1)) g2 N (hi'.same (Y W g2 N))
theorem eH{w:World}{o:Obj}{B:Nat}(h:B<w.heap.size):(w.alloc o).heap[B]?=w.heap[B]?:=by
 simp only[World.alloc];rw[Array.getElem?_push];rw[if_neg (by omega)]
theorem BS{w:World}{o:Obj}{B j:Nat}(h:B<w.heap.size):cl (w.alloc o) B j=cl w B j:=cX (eH h) j
theorem iN{w:World}{c:Array Value}{t:TypeId}{fr:Nat×Nat}{j:Nat}:cl (w.alloc (.cells c t fr)) w.heap.size j=c[j]?:=by
 unfold cl World.cell? World.alloc;simp
theorem Ap(w:World)(c:Array Value)(t:TypeId)(a:Addr):(w.alloc (.cells c t)).frozen? a=w.frozen? a:=by
 by_cases h:a.block<w.heap.size
 ·unfold World.frozen?;simp only[eH h]
 ·have I:w.heap[a.block]?=none:=by simp;omega
  by_cases J:a.block=w.heap.size
  ·have H:(w.alloc (.cells c t)).heap[a.block]?=some (.cells c t):=by rw[J];show(w.heap.push (.cells c t))[w.heap.size]?=_;simp
   unfold World.frozen?;simp[H,I]
  ·have H:(w.alloc (.cells c t)).heap[a.block]?=none:=by show(w.heap.push (.cells c t))[a.block]?=none;rw[Array.getElem?_eq_none];simp;omega
   unfold World.frozen?;simp[H,I]
theorem fL.alloc{w:World}{c:Array Value}{t:TypeId}:fL (w.alloc (.cells c t)) w.heap.size:=⟨c,t,0,0,by show(w.heap.push _)[w.heap.size]?=_;simp,.inl rfl⟩
theorem Ev.alloc(G:Gh)(w:World)(o:Obj)(H: ∀β B x,G.prot β B x->B<w.heap.size)(I: ∃c t,o= .cells c t:=by exact⟨_,_,rfl⟩):Ev G w (w.alloc o) where
 size:=by simp
 out:=rfl
 os:=rfl
 away B hb _:=eH hb
 some B j h:=by rw[BS (Fh h)];exact h
 prot β B j h:=BS (H β B j h)
 fz B o _:=by obtain⟨c,t,rfl⟩:=I;exact Ap w c t _
 tape:=rfl
theorem Ev.drew(G:Gh)(w:World):Ev G w w.drew:=Ev.of_eq rfl rfl rfl rfl
theorem cY{w:World}{B B':Nat}(h:B'≠B): ∀(vs:List Value) (o:Nat) (w:World),(w.setCells B o vs).heap[B']?=w.heap[B']?
 | [],_,_=>rfl
 |v::r,o,w=>by
  rw[World.setCells,cY (w:=w) h r];exact heap_setCell_other w ⟨B,o,none⟩ B' v h
theorem j1{B:Nat}: ∀(vs:List Value) (o:Nat) (w:World),(w.setCells B o vs).heap.size=w.heap.size
 | [],_,_=>rfl
 |v::r,o,w=>by rw[World.setCells,j1 r];simp
theorem pF{B:Nat}: ∀(vs:List Value) (o:Nat) (w:World),(w.setCells B o vs).output=w.output/\(w.setCells B o vs).os=w.os
 | [],_,_=>⟨rfl,rfl⟩
 |v::r,o,w=>by rw[World.setCells];exact pF r _ _
theorem v5{B:Nat}: ∀(vs:List Value) (o:Nat) (w:World),(w.setCells B o vs).tape=w.tape
 | [],_,_=>rfl
 |v::r,o,w=>by rw[World.setCells];exact v5 r _ _
theorem i4{w:World}{B o:Nat}{vs:List Value}(h: ∀j,j<vs.length->(cl w B (o+j)).isSome=true){j:Nat}(H:j<vs.length):
  cl (w.setCells B o vs) B (o+j)=some vs[j]:=World.cell?_setCells_in B vs o w h j H
theorem gN{w:World}{B o:Nat}{vs:List Value}{j:Nat}(h:j<o\/o+vs.length≤j):cl (w.setCells B o vs) B j=cl w B j:=
 World.cell?_setCells_out B vs o w ⟨B,j,none⟩ (λ_ _=>h)
theorem Bf{w:World}{B o:Nat}{vs:List Value}(h: ∀j,j<vs.length->(cl w B (o+j)).isSome=true){B' j:Nat}(hs:(cl w B' j).isSome=true):
  (cl (w.setCells B o vs) B' j).isSome=true:=by
 by_cases e:B'=B
 ·subst e;by_cases H:j<o\/o+vs.length≤j
  ·rw[gN H];exact hs
  ·obtain⟨k,rfl⟩: ∃k,j=o+k:=⟨j-o,by omega⟩
   rw[i4 h (by omega)];rfl
 ·rw[cX (cY (w:=w) e vs o w)];exact hs
theorem Cp{w:World}{B o:Nat}{vs:List Value}(a:Addr):(w.setCells B o vs).frozen? a=w.frozen? a:=World.frozen?_setCells B vs o w a
theorem fL.setCell{w:World}{B o:Nat}{v:Value}(h:fL w B):fL (w.setCell ⟨B,o,none⟩ v) B:=by
 obtain⟨c,el,J,K,I,H⟩:=h;refine⟨c.setIfInBounds o v,el,J,K,?_,by simpa using H⟩;unfold World.setCell;simp[Array.getElem?_modify,I]
theorem fL.setCells{B:Nat}: ∀{vs:List Value} {o:Nat} {w:World},fL w B->fL (w.setCells B o vs) B
 | [],_,_,h=>h
 |v::r,o,w,h=>by rw[World.setCells];exact fL.setCells h.setCell
theorem Ev.setCells{G:Gh}{w:World}{B o:Nat}{vs:List Value}(hm:G.mine B)(h: ∀j,j<vs.length->(cl w B (o+j)).isSome=true)
  (H: ∀β j,¬G.prot β B j):Ev G w (w.setCells B o vs) where
 size:=by rw[j1];exact ya1 _
 out:=(pF vs o w).1
 os:=(pF vs o w).2
 away B' hb hn:=cY (w:=w) (λe:B'=B=>hn (by rw[e];exact hm)) vs o w
 some B' j hs:=Bf h hs
 prot β B' j hj:=by
  by_cases e:B'=B
  ·subst e;exact absurd hj (H β j)
  ·exact cX (cY (w:=w) e vs o w) j
 fz B o _:=Cp _
 tape:=v5 vs o w
theorem aI.make{G:Gh}{w:World}{mem:aK}{b:Nat}{row:aX}{c:Array Value}{t:TypeId}(hM:aI G w mem)(J:mem[b]?=some none)
  (O:1≤row.e) (hr:fN (G.put b 0 ⟨some w.heap.size,row.e,row.len,0⟩) (w.alloc (.cells c t)) w.heap.size 0 row) (H: ∀i U B',¬cA (w.alloc (.cells c t)) w.heap.size row i U B'):
  aI (G.put b 0 ⟨some w.heap.size,row.e,row.len,0⟩) (w.alloc (.cells c t)) (mem.set b (some {gen:=0,frz:=false,row})):=by
 have M:b<mem.length:=by
  rcases yd2 b mem.length with h|h
  ·exact h
  ·rw[yb1 h]at J;cases J
 have I: ∀g,G.loc b g=none:=λg=>hM.unset b g (λx N=>by rw[J]at N;cases N);have K:=Ev.alloc G w (.cells c t) hM.away;refine hM.upd (x':={gen:=0,frz:=false,row}) K M (.inl (I 0)) ⟨λB' h=>eH (hM.other h).2.1,λB hB h=>?_,λB hB i c B' h=>?_,λB hB i c i2 c2 B' h _=>?_⟩ (λg _=>I g) ?_
 ·simp only[Option.some.injEq]at hB;subst hB;exact Nat.lt_irrefl _ (hM.other h).2.1
 ·simp only[Option.some.injEq]at hB;subst hB;exact absurd h (H i c B')
 ·simp only[Option.some.injEq]at hB;subst hB;exact absurd h (H i c B')
 ·refine⟨O,some w.heap.size,0,by simp[Gh.put],λ_=>rfl,hM.own _ (ya1 _),by simp,fL.alloc,hr,λ_ β o V=>?_⟩
  ·exact absurd (hM.away β _ o V) (Nat.lt_irrefl _)
theorem aI.ev{G:Gh}{w M:World}{mem:aK}(hM:aI G w mem)(I:Ev G w M)(hs:M.heap.size=w.heap.size\/w.heap.size≤M.heap.size)
  (H: ∀B,B<w.heap.size->M.heap[B]?=w.heap[B]?):aI G M mem where
 box b x h:=by
  have hx:=hM.box b x h;obtain⟨o,a0,Y,N,hm⟩:=hx.loc;refine⟨hx.e,o,a0,Y,N,?_⟩;cases o with
  |none=>exact hm
  |some B=>
   obtain⟨O,K,U,W,V⟩:=hm;have Z:=H B K;have hB:d5 G b x B:=⟨_,Y,rfl⟩
   exact⟨O,yy1 K I.size,U.of_heap Z,W.mono (cJ.refl G) I (λo _=>cX Z o) (λi c B' J=>⟨.of (H B' (hM.inn h hB J).2.1),(hM.inn h hB J).2.2.2⟩),V⟩
 unset:=hM.unset
 gens:=hM.gens
 apart:=hM.apart
 inA b b' x x' B i c B' h k J h':=hM.inA b b' x x' B i c B' h k (J.same λo=>cX (H B (hM.blkSz h k)) o) h'
 inB b b' x x' B C i c i' c' B' h k J h' k' hi':=hM.inB b b' x x' B C i c i' c' B' h k (J.same λo=>cX (H B (hM.blkSz h k)) o) h' k' (hi'.same λo=>cX (H C (hM.blkSz h' k')) o)
 own B h:=hM.own B (yc2 I.size h)
 lab:=hM.lab
 away β B o h:=yy1 (hM.away β B o h) I.size
 glob:=hM.glob.mono (λ_ _ h=>h) (I.prot true)
end Go.Ab
end
section
namespace Go.Ab
variable [b3]
theorem aA{α:Type}{c:Bool}{x:Option α}{y:α}:guardB c x=some y↔c=true/\x=some y:=by
 cases c<;>simp[guardB]
theorem iV{a b:IntKind}:fY a b=true↔a=b:=by cases a<;>cases b<;>simp[fY]
section
variable {P:Program}
def jK(P:Program)(G:Gh)(w:World)(mem:aK)(o:Oper)(a:Act)(out:cU):Prop:=
 ∃G' w' nx cv,(execOp a.eval o).run P w= .ok nx w'/\(nx= .value cv\/(nx= .skip/\cv=undef))/\VR G' w' out.v cv/\cJ G G'/\Ev G w w'/\aI G' w' (out.apply mem)
theorem Ec(v:AV)(rd:List Nat)(mem:aK):({v,rd}:cU).apply mem=mem:=by simp[cU.apply,aM]
theorem jK.pure{G:Gh}{w:World}{mem:aK}{o:Oper}{a:Act}{v:AV}{rd:List Nat}{cv:Value}(hM:aI G w mem)
  (H:(execOp a.eval o).run P w= .ok (.value cv) w) (I:VR G w v cv):jK P G w mem o a {v,rd}:=
 ⟨G,w,.value cv,cv,H,.inl rfl,I,cJ.refl G,Ev.refl G w,by rw[Ec];exact hM⟩
def MW(G:Gh)(w:World)(ρ:Operand->Option AV)(a:Act):Prop:= ∀x v,ρ x=some v->VR G w v (a.eval x)
theorem VR.lit_inv{G:Gh}{w:World}{v cv:Value}(h:VR G w (.lit v) cv):cv=v:=by cases h;rfl
theorem GV(w:World){t:TypeId}(a b:Bool)(h:P.underlying t=some .bool):(binOp .eql t (.bool a) (.bool b)).run P w= .ok (.bool (a==b)) w:=by
 have:(Op.equal t (.bool a) (.bool b)).run P w= .ok (a==b) w:=run_equalIn_bool w 9999 t a b h;simp only[binOp];simp[this]
theorem GP(w:World){t:TypeId}(a b:Bool)(h:P.underlying t=some .bool):(binOp .neq t (.bool a) (.bool b)).run P w= .ok (.bool (!(a==b))) w:=by
 have:(Op.equal t (.bool a) (.bool b)).run P w= .ok (a==b) w:=run_equalIn_bool w 9999 t a b h;simp only[binOp];simp[this]
theorem Ks{op:BinOp}{t:TypeId}{x y:Operand}{a b r:Value}{w:World}(H:CV P t a b=true)(h:pM op a b=some r):
  (eqGuard op t x y a b).run P w= .ok () w/\(binOp op t a b).run P w= .ok r w:=by
 unfold pM at h;split at h
 ·rename_i k a k' b;refine⟨by rw[eqGuard_at_int];rfl,?_⟩;split at h<;>simp only[aA,Option.some.injEq,decide_eq_true_eq,yq,beq_eq_false_iff_ne,ne_eq]at h
  ·obtain⟨K,rfl⟩:=h;simp[binOp,Op.shift,Int.not_lt.2 K]
  ·obtain⟨K,rfl⟩:=h;simp[binOp,Op.shift,Int.not_lt.2 K]
  all_goals
   first
   |(obtain⟨I,J,rfl⟩:=h;rw[iV]at I;subst I;simp[binOp,Op.intDiv,J])
   |(obtain⟨I,rfl⟩:=h;rw[iV]at I;subst I;simp[binOp,Op.intArith,Op.intBits,Op.intCmp])
 ·rename_i a b;have J:P.underlying t=some .bool:=by
   simp only[CV,GH]at H;split at H<;>simp_all
  refine⟨by rw[eqGuard_at_bool];rfl,?_⟩;split at h<;>simp only[Option.some.injEq,reduceCtorEq]at h
  ·subst h;exact GV w a b J
  ·subst h;exact GP w a b J
 ·rename_i a b;refine⟨by rw[eqGuard_at_string];rfl,?_⟩;split at h<;>simp only[Option.some.injEq,reduceCtorEq]at h
  ·subst h;simp[binOp,Op.stringOp]
  ·subst h;simp[binOp,Op.stringOp]
 ·simp at h
theorem FD{op:BinOp}{a b r:Value}(h:pM op a b=some r):kI r=true:=by
 unfold pM at h
 repeat' split at h
 all_goals (simp only[aA,Option.some.injEq,reduceCtorEq]at h)
 all_goals first
  |(subst h;rfl)
  |(obtain⟨_,rfl⟩:=h;rfl)
  |(obtain⟨_,_,rfl⟩:=h;rfl)
theorem Hw{op:UnOp}{a r:Value}(h:F0 op a=some r):kI r=true:=by
 unfold F0 at h;split at h<;>simp only[Option.some.injEq,reduceCtorEq]at h<;>subst h<;>rfl
theorem LV{op:UnOp}{a r:Value}{w:World}(h:F0 op a=some r):(Op.unary op a).run P w= .ok r w:=by
 unfold F0 at h;split at h<;>simp only[Option.some.injEq,reduceCtorEq]at h<;>subst h<;>simp[Op.unary,Op.intArith,Op.intBits]
theorem B3{t:TypeId}{d:TypeDesc}(J:P.underlying t=some d)(h1: ∀fs,d≠ .struct fs)(h2: ∀n e,d≠ .array n e){cs:Array Value}{o:Nat}{v:Value}(I:cs[o]?=some v)(w:World):
  (part t cs o).run P w= .ok v w:=by
 have H:(isAgg t).run P w= .ok false w:=by
  simp only[isAgg,Sem.run_bind,run_underlying J,Result.andThen_ok];rfl
 simp only[part,Sem.run_bind,H,Result.andThen_ok,yl2,if_false,I];rfl
theorem GK(d:Nat)(G:Gh)(w:World): ∀(fs:List Field) (n:Nat) (xs I:List AV) (as bs:List Value) (A B:Array Value) (r:Bool),
  (xs.length=as.length/\∀(j:Nat) (y:AV),xs[j]?=some y->VR G w y (as.getD j undef))->(I.length=bs.length/\∀(j:Nat) (y:AV),I[j]?=some y->VR G w y (bs.getD j undef))->
  (∀j:Nat,j<as.length->A[n+j]?=as[j]?)->(∀j:Nat,j<bs.length->B[n+j]?=bs[j]?)->jZ P fs n xs I=some r->
  (Op.eqFields (d+1) A B fs).run P w= .ok r w:=by
 intro fs
 induction fs with
 |nil=>
  intro n xs I as bs A B r _ _ _ _ h;cases xs<;>cases I<;>simp[jZ]at h;subst h;simp[Op.eqFields]
 |cons f fs ih=>
  intro n xs I as bs A B r ha W hA hB h;cases xs with
  |nil=>simp[jZ]at h
  |cons x xs=>
  cases I with
  |nil=>simp[jZ]at h
  |cons y I=>
  cases as with
  |nil=>simp at ha
  |cons a as=>
  cases bs with
  |nil=>simp at W
  |cons b bs=>
   have V:=ha.2 0 x rfl;have Z:=W.2 0 y rfl;simp only[List.getD_cons_zero]at V Z;have ha':xs.length=as.length/\∀(j:Nat) (y:AV),xs[j]?=some y->VR G w y (as.getD j undef):=⟨by simpa using ha.1,λj y hy=>by simpa using ha.2 (j+1) y (by simpa using hy)⟩
   have hb':I.length=bs.length/\∀(j:Nat) (y:AV),I[j]?=some y->VR G w y (bs.getD j undef):=⟨by simpa using W.1,λj y hy=>by simpa using W.2 (j+1) y (by simpa using hy)⟩
   simp only[jZ,aA,yb,bne_iff_ne,ne_eq]at h;obtain⟨⟨hn,H⟩,h⟩:=h;have H:=Nat.eq_of_beq_eq_true H;obtain⟨q,M,h⟩:=yp1.1 h;obtain⟨r',hr,rfl⟩:=yc.1 h;have h0a:A[f.offset]?=some a:=by rw[H];simpa using hA 0 (by simp)
   have h0b:B[f.offset]?=some b:=by rw[H];simpa using hB 0 (by simp)
   have K:(Op.equalIn (d+1) f.type a b).run P w= .ok q w/\∃Y,P.underlying f.type=some Y/\(∀fs,Y≠ .struct fs)/\(∀n e,Y≠ .array n e):=by
    unfold A8 at M;split at M
    ·rename_i k1 k x k' y J;obtain⟨hk,hq2⟩:=aA.1 M;rw[iV]at hk;subst hk;obtain rfl:=V.lit_inv;obtain rfl:=Z.lit_inv;obtain rfl:=ya hq2;exact⟨run_equalIn_int w d f.type k k1 x y J,_,J,by simp,by simp⟩
    ·rename_i x y J;obtain rfl:=V.lit_inv;obtain rfl:=Z.lit_inv;obtain rfl:=ya M;exact⟨run_equalIn_bool w d f.type x y J,_,J,by simp,by simp⟩
    ·rename_i x y J;obtain rfl:=V.lit_inv;obtain rfl:=Z.lit_inv;obtain rfl:=ya M;exact⟨run_equalIn_string w d f.type x y J,_,J,by simp,by simp⟩
    ·simp at M
   obtain⟨hqr,Y,O,U,N⟩:=K;have e1:(Op.eqFields (d+1) A B (f::fs)).run P w=(if(!q)=true then(Pure.pure false:Sem Bool)else Op.eqFields (d+1) A B fs).run P w:=by
    simp only[Op.eqFields];rw[if_pos hn];simp only[Sem.run_bind,B3 O U N h0a,B3 O U N h0b,hqr,Result.andThen_ok]
   rw[e1];cases q with
   |false=>rfl
   |true=>
    rw[yb3];refine Eq.trans ?_<|ih (n+1) xs I as bs A B r' ha' hb' (λj hj=>by have:=hA (j+1) (by simpa using hj);rw[show n+1+j=n+(j+1) by omega];simpa using this)
     (λj hj=>by have:=hB (j+1) (by simpa using hj);rw[show n+1+j=n+(j+1) by omega];simpa using this) hr
    rfl
theorem VR.agg_inv{G:Gh}{w:World}{cs:List AV}{cv:Value}(h:VR G w (.agg cs) cv): ∃cvs:Array Value,cv= .agg cvs/\nH G w cs cvs:=by
 cases h with
 |agg _ cvs H h=>exact⟨cvs,rfl,H,h⟩
theorem v6{G:Gh}{w:World}{t:TypeId}{xs H:List AV}{A B:Array Value}{r:Bool}(h:lI P t xs H=some r)(N:nH G w xs A)(K:nH G w H B)(x y:Operand):
  (Op.equalIn 10000 t (.agg A) (.agg B)).run P w= .ok r w/\P.eqGuardType P.depth t=false:=by
 unfold lI at h;split at h
 ·rename_i fs U;obtain⟨J,h⟩:=aA.1 h;simp only[yb,yq]at J;have O:P.fieldsOf t=fs:=by simp[Program.fieldsOf,U]
  refine⟨?_,J.2⟩;rw[show(10000:Nat)=9999+1 from rfl,run_equalIn_agg w 9999 t A B (by rw[O];exact U) J.1,O];have M: ∀(C:Array Value) (j:Nat),C.toList.getD j undef=C.getD j undef:=by
   intro C j;simp[yi,yk]
  exact GK 9998 G w fs.toList 0 xs H A.toList B.toList A B r ⟨by simpa using N.1,λj y I=>by rw[M];exact N.2 j y I⟩ ⟨by simpa using K.1,λj y I=>by rw[M];exact K.2 j y I⟩
   (λj _=>by simp) (λj _=>by simp) h
 ·simp at h
theorem VR.tree_slice{G:Gh}{w:World}{β:Bool}{p:PV}{I:Value}{e:Bool}(N:VR G w (.imm β p) I)(h:jH p=some e): ∃a l c,I= .slice a l c/\(e=false->a.isNone=false):=by
 cases N with
 |imm _ _ _ K hs=>
  cases K with
  |lit _ _=>cases h
  |intsNil k a=>simp only[jH,Option.some.injEq]at h;subst h;exact⟨_,_,_,rfl,λh=>by cases h⟩
  |ints k xs B o cap H M=>exact⟨_,_,_,rfl,λ_=>rfl⟩
  |slNil k a=>simp only[jH,Option.some.injEq]at h;subst h;exact⟨_,_,_,rfl,λh=>by cases h⟩
  |sl e' xs B o cap cv he H J M h3 h4=>exact⟨_,_,_,rfl,λ_=>rfl⟩
  |agg _ _ _ _=>cases h
 |unkB b=>cases h
 |dead _ _ _=>cases h
theorem Il{t:TypeId}(h:Am P t=true): ∃e,P.underlying t=some (.slice e):=by
 unfold Am at h;split at h
 ·rename_i e H;exact⟨e,H⟩
 ·cases h
theorem fH{G:Gh}{w:World}(op:BinOp)(t:TypeId)(x y:Operand)(a b:Option Addr)(l c I H:Nat):(eqGuard op t x y (.slice a l c) (.slice b I H)).run P w= .ok () w:=by
 unfold eqGuard;split<;>rfl
theorem Ck{w:World}(d:Nat){t e:TypeId}{a:Option Addr}{l c:Nat}(H:P.underlying t=some (.slice e)):(Op.equalIn (d+1) t (.slice a l c) (.slice none 0 0)).run P w= .ok a.isNone w:=by
 cases a<;>simp[Op.equalIn,run_underlying H]
theorem kS{G:Gh}{w:World}{op:BinOp}{t:TypeId}{a:Option Addr}{l c:Nat}(hs:Am P t=true):
  (binOp .eql t (.slice a l c) (.slice none 0 0)).run P w= .ok (.bool a.isNone) w/\(binOp .neq t (.slice a l c) (.slice none 0 0)).run P w= .ok (.bool (!a.isNone)) w:=by
 obtain⟨e,H⟩:=Il hs;have h:(Op.equal t (.slice a l c) (.slice none 0 0)).run P w= .ok a.isNone w:=Ck 9999 H;constructor
 ·simp only[binOp,Sem.run_bind,h,Result.andThen_ok];rfl
 ·simp only[binOp,Sem.run_bind,h,Result.andThen_ok];rfl
theorem Nw{G:Gh}{w:World}{op:BinOp}{t:TypeId}{x y:Operand}{a b r:AV}{N Y:Value}(h:qJ P op t a b=some r)(H:VR G w a N)(J:VR G w b Y):
    ∃cv,(eqGuard op t x y N Y).run P w= .ok () w/\(binOp op t N Y).run P w= .ok cv w/\VR G w r cv:=by
  unfold qJ at h;split at h
  · rename_i β p
    obtain rfl:=J.lit_inv;split at h
    · obtain⟨hs,h⟩:=aA.1 h
      obtain⟨e,U,rfl⟩:=yc.1 h;obtain⟨W,l,c,rfl,hn⟩:=H.tree_slice U;refine⟨.bool W.isNone,fH (G:=G) _ t x y _ _ _ _ _ _,(kS (G:=G) (op:= .eql) hs).1,?_⟩;cases e with
      |true=>exact .unkB _
      |false=>rw[hn rfl];exact .lit _ rfl
    · obtain⟨hs,h⟩:=aA.1 h
      obtain⟨e,U,rfl⟩:=yc.1 h;obtain⟨W,l,c,rfl,hn⟩:=H.tree_slice U;refine⟨.bool (!W.isNone),fH (G:=G) _ t x y _ _ _ _ _ _,(kS (G:=G) (op:= .neq) hs).2,?_⟩;cases e with
      |true=>exact .unkB _
      |false=>rw[hn rfl];exact .lit _ rfl
    · cases h
  · obtain rfl:=H.lit_inv;obtain rfl:=J.lit_inv
    split at h
    · obtain⟨hs,h⟩:=aA.1 h
      obtain rfl:=ya h;exact⟨.bool true,fH (G:=G) _ t x y _ _ _ _ _ _,(kS (G:=G) (op:= .eql) hs).1,.lit _ rfl⟩
    · obtain⟨hs,h⟩:=aA.1 h
      obtain rfl:=ya h;exact⟨.bool false,fH (G:=G) _ t x y _ _ _ _ _ _,(kS (G:=G) (op:= .neq) hs).2,.lit _ rfl⟩
    · cases h
  · rename_i a b _
    obtain⟨O,h⟩:=aA.1 h;obtain⟨v,hv,rfl⟩:=yc.1 h;obtain rfl:=H.lit_inv;obtain rfl:=J.lit_inv;obtain⟨I,K⟩:=Ks (P:=P) (x:=x) (y:=y) (w:=w) O hv;exact⟨v,I,K,.lit v (FD hv)⟩
  · rename_i as bs
    obtain⟨A,rfl,hA⟩:=H.agg_inv;obtain⟨B,rfl,hB⟩:=J.agg_inv;split at h
    · obtain⟨q,Z,rfl⟩:=yc.1 h
      obtain⟨I,K⟩:=v6 Z hA hB x y;exact⟨.bool q,run_eqGuard_agg w _ t x y A B K,by rw[run_eql_struct,I];rfl,.lit _ rfl⟩
    · obtain⟨q,Z,rfl⟩:=yc.1 h
      obtain⟨I,K⟩:=v6 Z hA hB x y;exact⟨.bool (!q),run_eqGuard_agg w _ t x y A B K,by rw[run_neq_struct,I];rfl,.lit _ rfl⟩
    · simp at h
  all_goals first
    |(simp at h;done)
    | (obtain rfl := J.lit_inv
       have hp: ∃p,N= .pointer (some p):=by cases H<;>exact⟨_,rfl⟩
       obtain⟨p,rfl⟩:=hp;split at h
       · obtain⟨M,h⟩:=aA.1 h
         have V:P.underlying t=some (.pointer (P.pointee t)):=by
           unfold Gr at M;split at M<;>simp_all[Program.pointee]
         simp only[Option.some.injEq]at h;subst h;exact⟨.bool false,by rw[eqGuard_at_pointer];rfl,by rw[run_eql_pointer_nil w t _ V];rfl,.lit _ rfl⟩
       · obtain⟨M,h⟩:=aA.1 h
         have V:P.underlying t=some (.pointer (P.pointee t)):=by
           unfold Gr at M;split at M<;>simp_all[Program.pointee]
         simp only[Option.some.injEq]at h;subst h;exact⟨.bool true,by rw[eqGuard_at_pointer];rfl,by rw[run_neq_pointer_nil w t _ V];rfl,.lit _ rfl⟩
       · simp at h)
end
end Go.Ab
end
section
namespace Go.Ab
variable [b3]
section
variable {P:Program}
theorem bind_some{α β:Type}{x:Option α}{f:α->Option β}{y:β}:x.bind f=some y↔∃a,x=some a/\f a=some y:=yp1
theorem Ax{α:Type}{c:Bool}{a b:α}:(bif c then some a else none)=some b↔c=true/\a=b:=by cases c<;>simp
theorem bI{a b:Nat}:Nat.beq a b=true↔a=b:=⟨Nat.eq_of_beq_eq_true,λh=>by subst h;exact yf3 a⟩
theorem cE{a b:Nat}:Nat.ble a b=true↔a≤b:=by rw[Nat.ble_eq]
theorem s9{t:TypeId}{b:Bool}(h:isAgg? P t=some b)(w:World):(isAgg t).run P w= .ok b w:=by
 unfold isAgg? at h;split at h
 ·rename_i d;simp only[isAgg,Sem.run_bind,run_underlying d,Result.andThen_ok];obtain rfl:=ya h;rfl
 ·rename_i d;simp only[isAgg,Sem.run_bind,run_underlying d,Result.andThen_ok];obtain rfl:=ya h;rfl
 ·rename_i J I H d;obtain rfl:=ya h;simp only[isAgg,Sem.run_bind,run_underlying d,Result.andThen_ok];cases J<;>first|rfl|exact absurd rfl (I _)|exact absurd rfl (H _ _)
 ·simp at h
theorem M9{t:TypeId}{n:Nat}(h:gW P t=some n): ∃i,P.info? t=some i/\i.size=n:=by
 unfold gW at h;obtain⟨i,H,hn⟩:=yc.1 h;exact⟨i,H,hn⟩
theorem dZ{t:TypeId}{n:Nat}(h:gW P t=some n)(w:World):(sizeOf t).run P w= .ok n w:=by
 obtain⟨i,H,rfl⟩:=M9 h;simp[sizeOf,typeInfo,H]
theorem cO(B o n:Nat):(⟨B,o,none⟩:Addr).add n=⟨B,o+n,none⟩:=by
 unfold Addr.add;split<;>simp_all
theorem kG{t:TypeId}{n B o:Nat}(H:isAgg? P t=some true)(hn:gW P t=some n){w:World}(f:Nat->Value)(h: ∀j,j<n->cl w B (o+j)=some (f j)):
  (loadVar t ⟨B,o,none⟩).run P w= .ok (.agg ((List.range n).map f).toArray) w:=by
 have I:=run_loadCells (P:=P) w ⟨B,o,none⟩ n f (λj J=>by rw[cO];exact h j J);simp only[loadVar,Sem.run_bind,s9 H,dZ hn,Result.andThen_ok,if_true,I,Sem.run_pure]
theorem gR{t:TypeId}{B o:Nat}(H:isAgg? P t=some false){w:World}{v:Value}(h:cl w B o=some v):
  (loadVar t ⟨B,o,none⟩).run P w= .ok v w:=by
 have I:w.cell? ⟨B,o,none⟩=some v:=h;simp only[loadVar,Sem.run_bind,s9 H,Result.andThen_ok,yl2,if_false,run_load,I]
theorem PR.lit_inv{w:World}{H:Nat->Nat->Prop}{v cv:Value}(h:PR w H (.lit v) cv):cv=v:=by cases h;rfl
theorem o4{G:Gh}{w:World}{β:Bool}{l:LK}{q:PV}{a:AV}{v:Value}(h:fC β l q=some a)(J:PR w (G.prot β) q v):VR G w a v:=by
 unfold fC at h;split at h
 ·rw[bind_some]at h;obtain⟨x,H,h⟩:=h;obtain rfl:=ya h;unfold PV.int? at H;split at H
  ·rename_i K n;rw[Ax]at H;obtain⟨I,H⟩:=H;subst H;rw[iV]at I;subst I;rw[J.lit_inv];exact .lit _ rfl
  ·simp at H
 ·rw[bind_some]at h;obtain⟨x,H,h⟩:=h;obtain rfl:=ya h;unfold PV.bool? at H;split at H
  ·obtain rfl:=ya H;rw[J.lit_inv];exact .lit _ rfl
  ·simp at H
 ·rw[bind_some]at h;obtain⟨x,H,h⟩:=h;obtain rfl:=ya h;unfold PV.str? at H;split at H
  ·obtain rfl:=ya H;rw[J.lit_inv];exact .lit _ rfl
  ·simp at H
 ·rw[bind_some]at h;obtain⟨x,H,h⟩:=h;obtain rfl:=ya h;unfold PV.ints? at H;split at H
  ·rename_i K xs;rw[Ax]at H;obtain⟨I,H⟩:=H;subst H;rw[iV]at I;subst I;exact .imm β _ v J rfl
  ·simp at H
 ·rw[bind_some]at h;obtain⟨x,H,h⟩:=h;obtain rfl:=ya h;unfold PV.sl? at H;split at H
  ·rename_i e' xs;rw[Ax]at H;obtain⟨I,H⟩:=H;subst H;rw[bI]at I;subst I;exact .imm β _ v J rfl
  ·simp at H
theorem lM{G:Gh}{w:World}{β:Bool}{cs:List PV}: ∀{ls:List LK} {c:Nat} {as:List AV},fT β cs ls c=some as->
  as.length=ls.length/\∀(f:Nat->Value),(∀(j:Nat) (y:PV),cs[c+j]?=some y->j<ls.length->PR w (G.prot β) y (f j))->
   (∀j,j<ls.length->∃y,cs[c+j]?=some y)/\∀(j:Nat) (y:AV),as[j]?=some y->VR G w y (f j)
 | [],c,as,h=>by
  simp[fT]at h;subst h;exact⟨rfl,λf _=>⟨λj I=>absurd I (by simp),λj y H=>by simp at H⟩⟩
 |l::r,c,as,h=>by
  simp only[fT]at h;rw[bind_some]at h;obtain⟨q,M,h⟩:=h;rw[bind_some]at h;obtain⟨a,V,h⟩:=h;rw[bind_some]at h;obtain⟨Y,J,h⟩:=h;obtain rfl:=ya h;obtain⟨W,N⟩:=lM (G:=G) (w:=w) J;refine⟨by simp[W],λf K=>?_⟩;obtain⟨O,U⟩:=N (λj=>f (j+1)) (λj y H I=>K (j+1) y (by rw[show c+(j+1)=c+1+j by omega];exact H) (by simpa using I));refine⟨λj I=>?_,λj y H=>?_⟩
  ·cases j with
   |zero=>exact⟨q,M⟩
   |succ j=>obtain⟨y,H⟩:=O j (by simpa using I);exact⟨y,by rw[show c+(j+1)=c+1+j by omega];exact H⟩
  ·cases j with
   |zero=>simp at H;subst H;exact o4 V (K 0 q M (by simp))
   |succ j=>exact U j y (by simpa using H)
theorem F5{G:Gh}{w:World}{β:Bool}{t:TypeId}{p:PV}{c B o:Nat}{a:AV}{cv:Nat->Value}(h:Lu P β t p c=some a)
  (O: ∀j y,p.cells[j]?=some y->cl w B (o+j)=some (cv j)) (hr: ∀j y,p.cells[j]?=some y->PR w (G.prot β) y (cv j)):
  ∃v,(loadVar t ⟨B,o+c,none⟩).run P w= .ok v w/\VR G w a v:=by
 unfold Lu at h;split at h
 ·rename_i H;rw[bind_some]at h;obtain⟨ls,V,h⟩:=h;rw[bind_some]at h;obtain⟨n,hn,h⟩:=h;rw[aA]at h;obtain⟨J,h⟩:=h;obtain rfl:=bI.1 J;rw[bind_some]at h;obtain⟨as,N,h⟩:=h;obtain rfl:=ya h;obtain⟨K,Y⟩:=lM (G:=G) (w:=w) N;obtain⟨W,Z⟩:=Y (λj=>cv (c+j)) (λj y I _=>hr _ y I);refine⟨_,kG H hn (λj=>cv (c+j)) (λj M=>?_),.agg _ _ (by simp[K]) λj y I=>?_⟩
  ·obtain⟨y,I⟩:=W j M;rw[show o+c+j=o+(c+j) by omega];exact O _ y I
  ·have M:j<ls.length:=by rw[<-K];exact(yd.1 I).1
   have:=Z j y I;simpa[yk,M]using this
 ·rename_i H;rw[bind_some]at h;obtain⟨l,K,h⟩:=h;rw[bind_some]at h;obtain⟨q,U,h⟩:=h;exact⟨cv c,gR H (O c q U),o4 h (hr c q U)⟩
 ·simp at h
theorem box?_some{mem:aK}{b g:Nat}{x:bG}(h:box? mem b g=some x):mem[b]?=some (some x)/\x.gen=g:=by
 unfold box? at h;split at h
 ·rename_i y e;cases H:Nat.beq y.gen g<;>cases I:y.row.isOwn<;>simp[H,I]at h;subst h;exact⟨e,bI.1 H⟩
 ·simp at h
theorem box?_own{mem:aK}{b g:Nat}{x:bG}(h:box? mem b g=some x):x.row.isOwn=false:=by
 unfold box? at h;split at h
 ·rename_i y e;cases I:Nat.beq y.gen g<;>cases H:y.row.isOwn<;>simp[I,H]at h;subst h;exact H
 ·simp at h
theorem boxO?_some{mem:aK}{b g:Nat}{x:bG}(h:boxO? mem b g=some x):mem[b]?=some (some x)/\x.gen=g/\x.row.isOwn=true:=by
 unfold boxO? at h;split at h
 ·rename_i y e;cases H:Nat.beq y.gen g<;>cases I:y.row.isOwn<;>simp[H,I]at h;subst h;exact⟨e,bI.1 H,I⟩
 ·simp at h
theorem aI.at_ptr'{G:Gh}{w:World}{mem:aK}(hM:aI G w mem){b g i c:Nat}{x:bG}{cv:Value}(hm:mem[b]?=some (some x))(I:x.gen=g)(h:VR G w (.ptr b g i c) cv):
  ∃B a,cv= .pointer (some ⟨B,a+(i*x.row.e+c),none⟩)/\G.loc b g=some ⟨some B,x.row.e,x.row.len,a⟩/\(x.row.isInts=false->a=0)/\G.mine B/\B<w.heap.size/\
   fL w B/\fN G w B a x.row/\(x.frz=false->∀β o,¬G.prot β B o):=by
 subst I;have M:=hM.box b x hm;obtain⟨o,W,J,H,hr⟩:=M.loc;cases h with
 |ptr _ _ _ _ L B hL hB=>
  rw[J]at hL;obtain rfl:=ya hL;simp only at hB;subst hB;obtain⟨K,U,O,N,V⟩:=hr;exact⟨B,W,rfl,J,H,K,U,O,N,V⟩
theorem aI.at_ptr{G:Gh}{w:World}{mem:aK}(hM:aI G w mem){b g i c:Nat}{x:bG}{cv:Value}(H:box? mem b g=some x)(h:VR G w (.ptr b g i c) cv):
  ∃B a,cv= .pointer (some ⟨B,a+(i*x.row.e+c),none⟩)/\G.loc b g=some ⟨some B,x.row.e,x.row.len,a⟩/\(x.row.isInts=false->a=0)/\G.mine B/\B<w.heap.size/\
   fL w B/\fN G w B a x.row/\(x.frz=false->∀β o,¬G.prot β B o):=hM.at_ptr' (box?_some H).1 (box?_some H).2 h
theorem B7{G:Gh}{w:World}{mem:aK}{t:TypeId}{a:AV}{out:cU}{cv:Value}(hM:aI G w mem)(h:iA P t mem a=some out)(ha:VR G w a cv):
  ∃v rd,out={v,rd}/\∃H,(Instr.loadAt t cv).run P w= .ok H w/\VR G w v H:=by
 unfold iA at h;split at h
 ·rename_i β p c;obtain⟨v,U,rfl⟩:=yc.1 h;refine⟨v,[],rfl,?_⟩;cases ha with
  |el _ _ _ B o f h hr=>
   obtain⟨H,O,J⟩:=F5 (P:=P) (w:=w) (o:=o) (B:=B) U (λj y W=>(h j y W).1) hr;exact⟨H,by simp[Instr.loadAt,Instr.sureAddr,O],J⟩
 ·rename_i b g i c;rw[bind_some]at h;obtain⟨x,hx,h⟩:=h;obtain⟨B,a0,rfl,hl,Y,hmine,hB,hfz,V,hpr⟩:=hM.at_ptr hx ha;have M: ∀H,(loadVar t ⟨B,a0+(i*x.row.e+c),none⟩).run P w= .ok H w->(Instr.loadAt t (.pointer (some ⟨B,a0+(i*x.row.e+c),none⟩))).run P w= .ok H w:=by
   intro H hh;simp[Instr.loadAt,Instr.sureAddr,hh]
  obtain⟨gen,frz,row⟩:=x;split at h
  ·rename_i e cs I;simp only at I;subst I;obtain rfl:=Y rfl;simp only[yy]at M⊢
   rw[bind_some]at h;obtain⟨ag,N,h⟩:=h;obtain⟨_,K⟩:=V;cases ag with
   |true=>
    simp only[yl]at h;rw[bind_some]at h;obtain⟨n,hn,h⟩:=h;rw[aA]at h;obtain⟨hle,h⟩:=h;have hle:=cE.1 hle;obtain rfl:=ya h;refine⟨_,_,rfl,_,M _ (kG N hn (λj=>(cl w B (i*e+c+j)).getD undef) (λj hj=>?_)),.agg _ _ ?_ ?_⟩
    ·obtain⟨v,U,_,_⟩:=K (i*e+c+j) (cs[i*e+c+j]'(by omega)) (yf _);show cl w B _=_;simp only[aX.e];rw[U];rfl
    ·simp;omega
    ·intro j y W;have hj:j<n:=by have:=(yd.1 W).1;simp at this;omega
     have hy':cs[i*e+c+j]?=some y:=by
      rw[yf1 hj,yz]at W;exact W
     obtain⟨v,U,_,J⟩:=K _ y hy';simpa[yk,hj,U]using J
   |false=>
    simp only[yj]at h;obtain⟨v,U,rfl⟩:=yc.1 h;obtain⟨u,Z,_,J⟩:=K _ v U;exact⟨_,_,rfl,u,M _ (gR N Z),J⟩
  ·rename_i k xs I;simp only at I;subst I;rw[aA]at h;obtain⟨hc0,h⟩:=h;obtain rfl:=bI.1 hc0;rw[aA]at h;obtain⟨N,h⟩:=h;obtain⟨v,U,rfl⟩:=yc.1 h;have hc:=V i v U;have hag':isAgg? P t=some false:=by
    cases hh:isAgg? P t with
    |none=>simp[hh]at N
    |some q=>cases q<;>simp[hh]at N⊢
   exact⟨_,_,rfl,_,M _ (gR hag' (by simpa[aX.e]using hc)),.lit _ rfl⟩
  ·rename_i β e xs I;simp only at I;subst I;obtain rfl:=Y rfl;simp only[yy]at M⊢
   rw[bind_some]at h;obtain⟨p,hp,h⟩:=h;obtain⟨v,U,rfl⟩:=yc.1 h;obtain⟨_,K⟩:=V;obtain⟨H,O,J⟩:=F5 (P:=P) (w:=w) (G:=G) (o:=i*e) (B:=B) (cv:=λj=>(cl w B (i*e+j)).getD undef) U
    (λj y W=>by obtain⟨u,Z,_,_⟩:=K i p j y hp W;rw[Z];rfl)
    (λj y W=>by obtain⟨u,Z,_,hpr⟩:=K i p j y hp W;rw[Z];exact hpr)
   exact⟨_,_,rfl,H,M _ O,J⟩
  ·simp at h
 ·simp at h
end
end Go.Ab
end
section
namespace Go.Ab
variable [b3]
section
variable {P:Program}
theorem Bk{α:Type}{xs:List α}{i:Int}{v:α}(h:aV xs i=some v):0≤i/\i.toNat<xs.length/\xs[i.toNat]?=some v:=by
 unfold aV at h;cases H:decide (0≤i)<;>simp only[H,yl,yj,reduceCtorEq]at h;exact⟨of_decide_eq_true H,(yd.1 h).1,h⟩
theorem fV(k:IntKind)(i:Int)(w:World):(asIntOf (.int k i)).run P w= .ok (k,i) w:=rfl
theorem dF{t H:TypeId}{s B o len cap:Nat}{k:IntKind}{i:Int}(K:P.underlying t=some (.slice H))(hs:gW P H=some s)(I:0≤i)(J:i<(len:Int))(w:World):
  (Instr.indexAt t (.slice (some ⟨B,o,none⟩) len cap) (.int k i)).run P w= .ok (.pointer (some ⟨B,o+i.toNat*s,none⟩)) w:=by
 simp only[Instr.indexAt,Sem.run_bind,fV,Result.andThen_ok,run_underlying K,Sem.run_pure,I,J,and_self,if_true,dZ hs,cO]
theorem yU{t H:TypeId}{s B o n:Nat}{k:IntKind}{i:Int}(K:P.underlying t=some (.array n H))(hs:gW P H=some s)(I:0≤i)(J:i<(n:Int))(w:World):
  (Instr.indexAt t (.pointer (some ⟨B,o,none⟩)) (.int k i)).run P w= .ok (.pointer (some ⟨B,o+i.toNat*s,none⟩)) w:=by
 simp only[Instr.indexAt,Sem.run_bind,fV,Result.andThen_ok,run_underlying K,Sem.run_pure,I,J,and_self,if_true,dZ hs,cO,Instr.sureAddr]
theorem aI.at_ms{G:Gh}{w:World}{mem:aK}(hM:aI G w mem){b g o n:Nat}{x:bG}{cv:Value}(W:box? mem b g=some x)(h:VR G w (.ms b g o n) cv):
  (∃ B a cap, cv = .slice (some ⟨B, a + o * x.row.e, none⟩) n cap ∧ n ≤ cap ∧ o + n ≤ x.row.len ∧ G.loc b g = some ⟨some B, x.row.e, x.row.len, a⟩ ∧ (x.row.isInts = false → a = 0) ∧ AQ w B (a + (o + cap) * x.row.e) ∧ G.mine B ∧ B < w.heap.size ∧
   fL w B/\fN G w B a x.row/\(x.frz=false->∀β o,¬G.prot β B o))\/
  (cv= .slice none 0 0/\o=0/\n=0/\x.row.len=0/\∃a,G.loc b g=some ⟨none,x.row.e,x.row.len,a⟩)\/
  (∃B J,cv= .slice (some ⟨B,J,none⟩) 0 0/\1≤o/\n=0/\o≤x.row.len/\∃a,G.loc b g=some ⟨some B,x.row.e,x.row.len,a⟩):=by
 obtain⟨hm,rfl⟩:=box?_some W;have N:=hM.box b x hm;obtain⟨J,a0,I,K,hr⟩:=N.loc;cases h with
 |ms _ _ _ _ cap L B hL hB hn H Z=>
  rw[I]at hL;obtain rfl:=ya hL;simp only at hB;subst hB;obtain⟨M,V,U,O,Y⟩:=hr;exact .inl ⟨B,a0,cap,rfl,hn,H,I,K,Z,M,V,U,O,Y⟩
 |msNil _ _ L hL hB=>
  rw[I]at hL;obtain rfl:=ya hL;simp only at hB;subst hB;exact .inr (.inl ⟨rfl,rfl,rfl,hr.1,_,I⟩)
 |msZ _ _ _ B J L hL hB ho H=>
  rw[I]at hL;obtain rfl:=ya hL;simp only at hB;subst hB;exact .inr (.inr ⟨B,J,rfl,ho,rfl,H,_,I⟩)
theorem aI.at_msw{G:Gh}{w:World}{mem:aK}(hM:aI G w mem){b g:Nat}{x:bG}{cv:Value}(U:box? mem b g=some x)(h:VR G w (.msw b g) cv):
  (∃ B a cap, cv = .slice (some ⟨B, a, none⟩) x.row.len cap ∧ x.row.len ≤ cap ∧ G.loc b g = some ⟨some B, x.row.e, x.row.len, a⟩ ∧ (x.row.isInts = false → a = 0) ∧ AQ w B (a + cap * x.row.e) ∧ G.mine B ∧ B < w.heap.size ∧
   fL w B/\fN G w B a x.row/\(x.frz=false->∀β o,¬G.prot β B o))\/
  (cv= .slice none 0 0/\x.row.len=0/\x.row.isCells=false/\∃a,G.loc b g=some ⟨none,x.row.e,x.row.len,a⟩):=by
 obtain⟨hm,rfl⟩:=box?_some U;have K:=hM.box b x hm;obtain⟨oo,Y,H,I,hr⟩:=K.loc;cases h with
 |msw _ _ cap L B hL hB hn W=>
  rw[H]at hL;obtain rfl:=ya hL;simp only at hB;subst hB;obtain⟨J,O,N,M,V⟩:=hr;exact .inl ⟨B,Y,cap,rfl,hn,H,I,W,J,O,N,M,V⟩
 |mswNil _ _ L hL hB hn=>
  rw[H]at hL;obtain rfl:=ya hL;simp only at hB;subst hB;exact .inr ⟨rfl,hr.1,hr.2,_,H⟩
theorem HD{G:Gh}{w:World}{mem:aK}{t:TypeId}{x:AV}{k:IntKind}{i:Int}{out:cU}{cv:Value}(hM:aI G w mem)(h:gG P t mem x i=some out)(W:VR G w x cv):
  ∃v rd,out={v,rd}/\∃U,(Instr.indexAt t cv (.int k i)).run P w= .ok U w/\VR G w v U:=by
 unfold gG at h;split at h
 ·rename_i et O;rw[bind_some]at h;obtain⟨s,hs,h⟩:=h;split at h
  ·rename_i β kk xs;rw[aA]at h;obtain⟨H,h⟩:=h;obtain rfl:=bI.1 H;rw[bind_some]at h;obtain⟨v,hv,h⟩:=h;obtain rfl:=ya h;obtain⟨M,I,Z⟩:=Bk hv;refine⟨_,_,rfl,?_⟩;cases W with
   |imm _ _ _ hp=>
    cases hp with
    |intsNil=>simp at I
    |ints _ _ B o cap Y hh=>
     refine⟨_,dF O hs M (by omega) w,?_⟩;have:=hh _ _ Z;refine .el β _ 0 B (o+i.toNat*1) (λ_=> .int kk v) (λj y J=>?_) (λj y J=>?_)
     ·cases j with
      |zero=>simpa using this
      |succ j=>simp[PV.cells]at J
     ·cases j with
      |zero=>simp[PV.cells]at J;subst J;exact .lit _ rfl
      |succ j=>simp[PV.cells]at J
  ·rename_i β e xs;rw[aA]at h;obtain⟨H,h⟩:=h;obtain rfl:=bI.1 H;rw[bind_some]at h;obtain⟨v,hv,h⟩:=h;obtain rfl:=ya h;obtain⟨M,I,Z⟩:=Bk hv;refine⟨_,_,rfl,?_⟩;cases W with
   |imm _ _ _ hp=>
    cases hp with
    |slNil=>simp at I
    |sl _ _ B o cap cv he Y hlen hh h1' hr=>
     refine⟨_,dF O hs M (by omega) w,?_⟩;exact .el β _ 0 B (o+i.toNat*s) (λj=>cv i.toNat j) (λj y J=>hh _ _ _ _ Z J) (λj y J=>hr _ _ _ _ Z J)
  ·rename_i b g o n;rw[bind_some]at h;obtain⟨bx,N,h⟩:=h;rw[aA]at h;obtain⟨K,h⟩:=h;simp only[yb,decide_eq_true_eq]at K;obtain⟨⟨H,M⟩,I⟩:=K;obtain rfl:=bI.1 H;obtain rfl:=ya h;refine⟨_,_,rfl,?_⟩;rcases hM.at_ms N W with ⟨B,a0,cap,rfl,hn,hon,V,_⟩|⟨rfl,rfl,rfl,_⟩|⟨B,oo,rfl,_,rfl,_⟩
   ·refine⟨_,dF O hs M I w,?_⟩;have:=VR.ptr (G:=G) (w:=w) b g (o+i.toNat) 0 _ B V rfl;simpa[yj1,ys1]using this
   ·simp at I;omega
   ·simp at I;omega
  ·rename_i b g;rw[bind_some]at h;obtain⟨bx,N,h⟩:=h;rw[aA]at h;obtain⟨K,h⟩:=h;simp only[yb,decide_eq_true_eq]at K;obtain⟨⟨H,M⟩,I⟩:=K;obtain rfl:=bI.1 H;obtain rfl:=ya h;refine⟨_,_,rfl,?_⟩;rcases hM.at_msw N W with ⟨B,a0,cap,rfl,hn,V,_⟩|⟨rfl,hz,_⟩
   ·refine⟨_,dF O hs M I w,?_⟩;have:=VR.ptr (G:=G) (w:=w) b g i.toNat 0 _ B V rfl;simpa using this
   ·rw[hz]at I;simp at I;omega
  ·simp at h
 ·rename_i n et O;rw[bind_some]at h;obtain⟨s,hs,h⟩:=h;split at h
  ·rename_i b g j c;rw[aA]at h;obtain⟨K,h⟩:=h;simp only[yb,decide_eq_true_eq]at K;obtain rfl:=ya h;refine⟨_,_,rfl,?_⟩;cases W with
   |ptr _ _ _ _ L B V hb=>
    refine⟨_,yU O hs K.1 K.2 w,?_⟩;rw[ys1,ys1];exact .ptr b g j _ L B V hb
  ·simp at h
 ·simp at h
theorem iH{y d:Nat}{i:Option Int}{n:Nat}(h:w6 y i d=some n):(i=none/\n=d)\/(∃z,i=some z/\0≤z/\z≤(y:Int)/\n=z.toNat):=by
 cases i with
 |none=>exact .inl ⟨rfl,(ya h).symm⟩
 |some z=>
  simp only[w6]at h;rw[aA]at h;obtain⟨H,h⟩:=h;simp only[yb,decide_eq_true_eq]at H;exact .inr ⟨z,rfl,H.1,H.2,(ya h).symm⟩
def mF(o:Option Int)(v:Option Value):Prop:=
 match o,v with
 |none,none=>True
 |some i,some v=> ∃k,v= .int k i
 |_,_=>False
theorem b5{isSlice:Bool}{len cap:Nat}{lo hi mx:Option Int}{M W vm:Option Value}{l h:Nat}(I:fQ len lo hi mx=some (l,h))(hc:len≤cap)
  (Y:mF lo M) (hh:mF hi W) (hm:mF mx vm) (w:World):
  ∃m,(Instr.sliceBounds isSlice len cap M W vm).run P w= .ok (l,h,m) w/\l≤h/\h≤len/\h≤m/\m≤cap:=by
 unfold fQ at I;rw[aA]at I;obtain⟨hg,I⟩:=I;rw[bind_some]at I;obtain⟨m,h1,I⟩:=I;rw[bind_some]at I;obtain⟨h',h2,I⟩:=I;rw[bind_some]at I;obtain⟨l',h3,I⟩:=I;simp only[Option.some.injEq,Prod.mk.injEq]at I;obtain⟨rfl,rfl⟩:=I;rcases iH h1 with ⟨rfl,rfl⟩|⟨O,rfl,zm0,zm1,rfl⟩
 ·have:vm=none:=by cases vm<;>simp_all[mF]
  subst this;rcases iH h2 with ⟨rfl,rfl⟩|⟨H,rfl,J,zh1,rfl⟩
  ·have:W=none:=by cases W<;>simp_all[mF]
   subst this;rcases iH h3 with ⟨rfl,rfl⟩|⟨zl,rfl,K,V,rfl⟩
   ·have:M=none:=by cases M<;>simp_all[mF]
    subst this;exact⟨cap,by simp[Instr.sliceBounds],by omega,by omega,by omega,by omega⟩
   ·cases M with
    |none=>simp[mF]at Y
    |some v=>
     obtain⟨k,rfl⟩:=Y;exact⟨cap,by simp[Instr.sliceBounds,Instr.sliceBound,fV,K,V],by omega,by omega,by omega,by omega⟩
  ·cases W with
   |none=>simp[mF]at hh
   |some v=>
    obtain⟨k,rfl⟩:=hh;have N:H≤(cap:Int):=by omega
    rcases iH h3 with ⟨rfl,rfl⟩|⟨zl,rfl,K,V,rfl⟩
    ·have:M=none:=by cases M<;>simp_all[mF]
     subst this;exact⟨cap,by simp[Instr.sliceBounds,Instr.sliceBound,fV,J,N],by omega,by omega,by omega,by omega⟩
    ·cases M with
     |none=>simp[mF]at Y
     |some v=>
      obtain⟨k,rfl⟩:=Y;have e:((H.toNat:Nat):Int)=H:=by omega
      have U:zl≤H:=by omega
      have Z: ¬(max H 0<zl):=by omega
      exact⟨cap,by simp[Instr.sliceBounds,Instr.sliceBound,fV,J,N,K,e,U,Z],by omega,by omega,by omega,by omega⟩
 ·cases vm with
  |none=>simp[mF]at hm
  |some v=>
   obtain⟨km,rfl⟩:=hm;have zm2:O≤(cap:Int):=by omega
   have em:((O.toNat:Nat):Int)=O:=by omega
   rcases iH h2 with ⟨rfl,rfl⟩|⟨H,rfl,J,zh1,rfl⟩
   ·simp at hg
   ·cases W with
    |none=>simp[mF]at hh
    |some v=>
     obtain⟨k,rfl⟩:=hh;have N:H≤O:=by omega
     rcases iH h3 with ⟨rfl,rfl⟩|⟨zl,rfl,K,V,rfl⟩
     ·have:M=none:=by cases M<;>simp_all[mF]
      subst this;have Z: ¬(max O 0<H):=by omega
      exact⟨O.toNat,by simp[Instr.sliceBounds,Instr.sliceBound,fV,J,N,zm0,zm2,em,Z],by omega,by omega,by omega,by omega⟩
     ·cases M with
      |none=>simp[mF]at Y
      |some v=>
       obtain⟨k,rfl⟩:=Y;have e:((H.toNat:Nat):Int)=H:=by omega
       have U:zl≤H:=by omega
       have Z: ¬(max O 0<H):=by omega
       have mz2: ¬(max H 0<zl):=by omega
       have mp:H≤max O 0:=by omega
       have mp2:zl≤max H 0:=by omega
       exact⟨O.toNat,by simp[Instr.sliceBounds,Instr.sliceBound,fV,J,N,zm0,zm2,em,K,e,U,Z,mz2,mp,mp2],by omega,by omega,by omega,by omega⟩
end
end Go.Ab
end
section
namespace Go.Ab
variable [b3]
section
variable {P:Program}
def OI(G:Gh)(w:World)(P:Program)(s:Sem Value)(out:cU):Prop:=out.wr= []/\out.push= []/\∃cv,s.run P w= .ok cv w/\VR G w out.v cv
theorem a6{t H:TypeId}{s:Nat}(N:P.underlying t=some (.slice H))(hs:gW P H=some s){a:Option Addr}{len cap:Nat}{I K J:Option Value}{l h m:Nat}{w:World}
  (M:(Instr.sliceBounds true len cap I K J).run P w= .ok (l,h,m) w):
  (Instr.sliceAt t (.slice a len cap) I K J).run P w= .ok (.slice (if m=l then a else a.map (·.add (l*s))) (h-l) (m-l)) w:=by
 simp only[Instr.sliceAt,Instr.slice,Sem.run_bind,run_underlying N,Result.andThen_ok,M,dZ hs,Sem.run_pure]
theorem AM{t:TypeId}(K:P.underlying t=some .string){s:ByteArray}{H I:Option Value}{l h m:Nat}{w:World}
  (J:(Instr.sliceBounds false s.size s.size H I none).run P w= .ok (l,h,m) w):
  (Instr.sliceAt t (.string s) H I none).run P w= .ok (.string (s.extract l h)) w:=by
 simp[Instr.sliceAt,Instr.slice,run_underlying K,J]
theorem Cj{t H:TypeId}{s n B o:Nat}(N:P.underlying t=some (.array n H))(hs:gW P H=some s){I K J:Option Value}{l h m:Nat}{w:World}
  (M:(Instr.sliceBounds false n n I K J).run P w= .ok (l,h,m) w):
  (Instr.sliceAt t (.pointer (some ⟨B,o,none⟩)) I K J).run P w= .ok (.slice (some (if m=l then⟨B,o,none⟩else⟨B,o+l*s,none⟩)) (h-l) (m-l)) w:=by
 simp only[Instr.sliceAt,Instr.sureAddr,Sem.run_bind,run_underlying N,Result.andThen_ok,M,dZ hs,Sem.run_pure,cO]
theorem jV{α:Type}{xs:List α}{l h i:Nat}{x:α}(H:((xs.take h).drop l)[i]?=some x):xs[l+i]?=some x/\l+i<h:=by
 rw[yz]at H;have I:l+i<h:=by
  rcases yd2 (l+i) h with J|J
  ·exact J
  ·rw[yb1 (by simp;omega)]at H;cases H
 exact⟨by rw[yf1 I]at H;exact H,I⟩
theorem yX{G:Gh}{w:World}{b g o n cap l h m:Nat}{B e N a:Nat}(H:G.loc b g=some ⟨some B,e,N,a⟩)(J:AQ w B (a+(o+cap)*e))(V:o+n≤N)
  (h1:l≤h) (h2:h≤n) (h3:h≤m) (h4:m≤cap):
  VR G w (.ms b g (o+l) (h-l)) (.slice (if m=l then(some ⟨B,a+o*e,none⟩:Option Addr)else(some (⟨B,a+o*e,none⟩:Addr)).map (·.add (l*e))) (h-l) (m-l)):=by
 have K:AQ w B (a+(o+l+(m-l))*e):=λj W=>J j (yy1 W (Nat.add_le_add_left (yz1 _ (by omega)) _));by_cases I:m=l
 ·rw[if_pos I];have U:h-l=0:=by omega
  have O:m-l=0:=by omega
  rw[U,O];by_cases M:l=0
  ·subst M;rw[O]at K;exact .ms b g o 0 0 _ B H rfl (by omega) (by simp;omega) (by simpa using K)
  ·exact .msZ b g (o+l) B _ _ H rfl (by omega) (by simp;omega)
 ·rw[if_neg I];simp only[yh,cO];have:=VR.ms (G:=G) (w:=w) b g (o+l) (h-l) (m-l) _ B H rfl (by omega) (by simp;omega) K;simpa[yj1,ys1]using this
theorem GL{G:Gh}{w:World}{mem:aK}{t:TypeId}{x:AV}{lo hi mx:Option Int}{vl vh vm:Option Value}{out:cU}{cv:Value}(hM:aI G w mem)(h:fA P t mem x lo hi mx=some out)(I:VR G w x cv)
  (hl:mF lo vl) (hh:mF hi vh) (hm:mF mx vm):OI G w P (Instr.sliceAt t cv vl vh vm) out:=by
 unfold fA at h;split at h
 ·rename_i V;split at h
  ·rename_i s;rw[aA]at h;obtain⟨hmx,h⟩:=h;obtain⟨⟨l,K⟩,N,rfl⟩:=yc.1 h;obtain rfl:=I.lit_inv;have:mx=none:=by cases mx<;>simp_all
   subst this;have:vm=none:=by cases vm<;>simp_all[mF]
   subst this;obtain⟨m,hr,_⟩:=b5 (P:=P) (isSlice:=false) N (ya1 _) hl hh hm w;exact⟨rfl,rfl,_,AM V hr,.lit _ rfl⟩
  ·simp at h
 ·rename_i et V;rw[bind_some]at h;obtain⟨s,hs,h⟩:=h;split at h
  ·rename_i β k xs;rw[aA]at h;obtain⟨M,h⟩:=h;obtain rfl:=bI.1 M;obtain⟨⟨l,K⟩,N,rfl⟩:=yc.1 h;cases I with
   |imm _ _ _ hp=>
    cases hp with
    |intsNil _ a=>
     obtain⟨m,hr,Y,U,W,Z⟩:=b5 (P:=P) (isSlice:=true) (cap:=0) N (by simp) hl hh hm w;refine⟨rfl,rfl,_,a6 V hs (a:=a) (len:=0) (cap:=0) hr,?_⟩;simp at U;obtain rfl:l=0:=by omega
     obtain rfl:K=0:=by omega
     obtain rfl:m=0:=by omega
     exact .imm β _ _ (by simpa using PR.intsNil k _) rfl
    |ints _ _ B o cap hcap hh'=>
     obtain⟨m,hr,Y,U,W,Z⟩:=b5 (P:=P) (isSlice:=true) (cap:=cap) N hcap hl hh hm w;refine⟨rfl,rfl,_,a6 V hs hr,.imm β _ _ ?_ rfl⟩;have J:((xs.take K).drop l).length=K-l:=by simp;omega
     by_cases hml:m=l
     ·have:(xs.take K).drop l= []:=yo (by omega);rw[if_pos hml,this,show K-l=([]:List Int).length by simp;omega];exact .ints k [] B o _ (by simp) (λi x I=>by simp at I)
     ·rw[if_neg hml,<-J];simp only[yh,cO,yy2];refine .ints k _ B (o+l) _ (by rw[J];omega) (λi x I=>?_);obtain⟨I,_⟩:=jV I;rw[ys1];exact hh' _ _ I
  ·rename_i β e xs;rw[aA]at h;obtain⟨M,h⟩:=h;obtain rfl:=bI.1 M;obtain⟨⟨l,K⟩,N,rfl⟩:=yc.1 h;cases I with
   |imm _ _ _ hp=>
    cases hp with
    |slNil _ a=>
     obtain⟨m,hr,Y,U,W,Z⟩:=b5 (P:=P) (isSlice:=true) (cap:=0) N (by simp) hl hh hm w;refine⟨rfl,rfl,_,a6 V hs (a:=a) (len:=0) (cap:=0) hr,?_⟩;simp at U;obtain rfl:l=0:=by omega
     obtain rfl:K=0:=by omega
     obtain rfl:m=0:=by omega
     exact .imm β _ _ (by simpa using PR.slNil s _) rfl
    |sl _ _ B o cap cv he hcap hlen0 hh' h1' hr'=>
     obtain⟨m,hr,Y,U,W,Z⟩:=b5 (P:=P) (isSlice:=true) (cap:=cap) N hcap hl hh hm w;refine⟨rfl,rfl,_,a6 V hs hr,.imm β _ _ ?_ rfl⟩;have J:((xs.take K).drop l).length=K-l:=by simp;omega
     by_cases hml:m=l
     ·have:(xs.take K).drop l= []:=yo (by omega);rw[if_pos hml,this,show K-l=([]:List PV).length by simp;omega];exact .sl s [] B o _ cv he (by simp) (λx I=>by simp at I) (λi x c y I=>by simp at I) (λi x c y I=>by simp at I) (λi x c y I=>by simp at I)
     ·rw[if_neg hml,<-J];simp only[yh,cO];refine .sl s _ B (o+l*s) _ (λi c=>cv (l+i) c) he (by rw[J];omega) (λx I=>hlen0 x (yu2 (List.mem_of_mem_drop I))) (λi x c y I hy=>?_) (λi x c y I hy=>h1' _ _ _ _ (jV I).1 hy) (λi x c y I hy=>?_)
      ·obtain⟨I,_⟩:=jV I;have:=hh' _ _ _ _ I hy;rw[show o+l*s+i*s+c=o+(l+i)*s+c by rw[yj1];omega];exact this
      ·obtain⟨I,_⟩:=jV I;exact hr' _ _ _ _ I hy
  ·rename_i b g o n;rw[bind_some]at h;obtain⟨bx,hbx,h⟩:=h;rw[aA]at h;obtain⟨M,h⟩:=h;obtain rfl:=bI.1 M;obtain⟨⟨l,K⟩,N,rfl⟩:=yc.1 h;rcases hM.at_ms hbx I with ⟨B,a0,cap,rfl,hn,hon,H,_,O,_⟩|⟨rfl,rfl,rfl,hz,_,H⟩|⟨B,oo,rfl,ho,rfl,hon,_,H⟩
   ·obtain⟨m,hr,Y,U,W,Z⟩:=b5 (P:=P) (isSlice:=true) (cap:=cap) N hn hl hh hm w;exact⟨rfl,rfl,_,a6 V hs hr,yX H O hon Y U W Z⟩
   ·obtain⟨m,hr,Y,U,W,Z⟩:=b5 (P:=P) (isSlice:=true) (cap:=0) N (by simp) hl hh hm w;refine⟨rfl,rfl,_,a6 V hs (a:=none) hr,?_⟩;obtain rfl:l=0:=by omega
    obtain rfl:K=0:=by omega
    obtain rfl:m=0:=by omega
    exact .msNil b g _ H rfl
   ·obtain⟨m,hr,Y,U,W,Z⟩:=b5 (P:=P) (isSlice:=true) (cap:=0) N (by simp) hl hh hm w;refine⟨rfl,rfl,_,a6 V hs hr,?_⟩;obtain rfl:l=0:=by omega
    obtain rfl:K=0:=by omega
    obtain rfl:m=0:=by omega
    exact .msZ b g o B oo _ H rfl ho hon
  ·rename_i b g;rw[bind_some]at h;obtain⟨bx,hbx,h⟩:=h;rw[aA]at h;obtain⟨M,h⟩:=h;obtain rfl:=bI.1 M;obtain⟨⟨l,K⟩,N,rfl⟩:=yc.1 h;rcases hM.at_msw hbx I with ⟨B,a0,cap,rfl,hn,H,_,O,_⟩|⟨rfl,hz,_,_,H⟩
   ·obtain⟨m,hr,Y,U,W,Z⟩:=b5 (P:=P) (isSlice:=true) (cap:=cap) N hn hl hh hm w;have:=yX (o:=0) (n:=bx.row.len) H (by simpa using O) (by simp) Y U W Z;exact⟨rfl,rfl,_,a6 V hs hr,by simpa using this⟩
   ·rw[hz]at N;obtain⟨m,hr,Y,U,W,Z⟩:=b5 (P:=P) (isSlice:=true) (cap:=0) N (by simp) hl hh hm w;refine⟨rfl,rfl,_,a6 V hs (a:=none) hr,?_⟩;obtain rfl:l=0:=by omega
    obtain rfl:K=0:=by omega
    obtain rfl:m=0:=by omega
    exact .msNil b g _ H rfl
  ·obtain⟨⟨l,K⟩,N,rfl⟩:=yc.1 h;obtain rfl:=I.lit_inv;obtain⟨m,hr,Y,U,W,Z⟩:=b5 (P:=P) (isSlice:=true) (cap:=0) N (by simp) hl hh hm w;refine⟨rfl,rfl,_,a6 V hs (a:=none) hr,?_⟩;obtain rfl:l=0:=by omega
   obtain rfl:K=0:=by omega
   obtain rfl:m=0:=by omega
   exact .lit _ rfl
  ·simp at h
 ·rename_i n et V;rw[bind_some]at h;obtain⟨s,hs,h⟩:=h;split at h
  ·rename_i b g c;rw[aA]at h;obtain⟨M,h⟩:=h;obtain rfl:=bI.1 M;rw[bind_some]at h;obtain⟨bx,hbx,h⟩:=h;obtain⟨B,a0,rfl,H,ha0,hmine,hB,hfz,hrow,hpr⟩:=hM.at_ptr hbx I;obtain⟨gen,frz,row⟩:=bx;split at h
   ·rename_i cs hrw;simp only at hrw;subst hrw;obtain rfl:=ha0 rfl;rw[aA]at h;obtain⟨hle,h⟩:=h;have hle:=cE.1 hle;obtain⟨⟨l,K⟩,N,rfl⟩:=yc.1 h;obtain⟨m,hr,Y,U,W,Z⟩:=b5 (P:=P) (isSlice:=false) (cap:=n) N (ya1 _) hl hh hm w;have O:AQ w B ((c+n)*1):=λj hj=>by
     obtain⟨v,hv,_⟩:=hrow.2 j (cs[j]'(by omega)) (yf _);rw[hv];rfl
    have J:(aX.cells 1 cs).len=cs.length:=rfl;have:=yX (o:=c) (n:=n) H (by rw[yy];exact O) (by rw[J];exact hle) Y U W Z;refine⟨rfl,rfl,_,Cj V hs hr,?_⟩;simp only[aX.e,yy2,yx2,yy,cO,yh]at this⊢
    split
    ·rename_i e;simpa[e]using this
    ·rename_i e;simpa[e]using this
   ·simp at h
  ·simp at h
 ·simp at h
end
end Go.Ab
end
section
namespace Go.Ab
variable [b3]
section
variable {P:Program}
theorem I9{G:Gh}{w:World}{mem:aK}{t ty:TypeId}{x:AV}{n:Nat×List Nat}{cv:Value}(hM:aI G w mem)(h:lenOf P t mem x=some n)(I:VR G w x cv):
  (Builtin.len_ #[t] ty #[cv]).run P w= .ok (.int .i64 (n.1:Int)) w:=by
 unfold lenOf at h;split at h
 ·rename_i J;split at h
  ·obtain rfl:=ya h;obtain rfl:=I.lit_inv;simp[Builtin.len_,run_underlying J,goInt]
  ·simp at h
 ·rename_i et J;have H: ∀(a:Option Addr) (l c:Nat),(Builtin.len_ #[t] ty #[.slice a l c]).run P w= .ok (.int .i64 (l:Int)) w:=by
   intro a l c;simp[Builtin.len_,run_underlying J,goInt]
  split at h
  ·obtain rfl:=ya h;cases I with|imm _ _ _ K=>cases K<;>exact H _ _ _
  ·obtain rfl:=ya h;cases I with|imm _ _ _ K=>cases K<;>exact H _ _ _
  ·obtain rfl:=ya h;cases I<;>exact H _ _ _
  ·obtain⟨bx,M,rfl⟩:=yc.1 h;rcases hM.at_msw M I with ⟨B,a0,cap,rfl,_⟩|⟨rfl,N,_⟩
   ·exact H _ _ _
   ·rw[H];simp[N]
  ·obtain rfl:=ya h;obtain rfl:=I.lit_inv;exact H _ _ _
  ·simp at h
 ·simp at h
theorem sJ{G:Gh}{w:World}{f:Int->Int->Int}{k:IntKind}{op:Value->Value->Sem Value}(J: ∀a b,(op (.int k a) (.int k b))=pure (.int k (f a b))):
  ∀{xs:List AV} {vs:List Value} {a r:Int},j8 f k xs a=some r->(xs.length=vs.length/\∀(j:Nat) (y:AV),xs[j]?=some y->VR G w y (vs.getD j undef))->
   (vs.foldlM op (.int k a)).run P w= .ok (.int k r) w:=by
 intro xs
 induction xs with
 |nil=>
  intro vs a r h H;simp[j8]at h;subst h;have:=yo H.1.symm;subst this;rfl
 |cons x xs O=>
  intro vs a r h H;cases vs with
  |nil=>simp at H
  |cons v vs=>
   have M:=H.2 0 x rfl;simp only[List.getD_cons_zero]at M;have K:xs.length=vs.length/\∀(j:Nat) (y:AV),xs[j]?=some y->VR G w y (vs.getD j undef):=⟨by simpa using H.1,λj y U=>by simpa using H.2 (j+1) y (by simpa using U)⟩
   unfold j8 at h;split at h
   ·simp_all
   ·rename_i k' b r' a' I;simp only[List.cons.injEq]at I;obtain⟨rfl,rfl⟩:=I;rw[aA]at h;obtain⟨N,h⟩:=h;rw[iV]at N;subst N;obtain rfl:=M.lit_inv;rw[List.foldlM_cons,J];simp only[Sem.run_bind,Sem.run_pure,Result.andThen_ok];exact O h K
   ·simp at h
theorem dR(C:Array Value)(j:Nat):C.toList.getD j undef=C.getD j undef:=by
 simp[yi,yk]
theorem wD{s:TypeId}{f:Nat}{q:Nat×Nat×TypeId}(h:kB P s f=some q):
  ∃fs x,P.underlying s=some (.struct fs)/\fs[f]?=some x/\x.offset=q.1/\gW P x.type=some q.2.1/\x.type=q.2.2/\1≤q.2.1:=by
 unfold kB at h;split at h
 ·rename_i fs J;rw[bind_some]at h;obtain⟨x,H,h⟩:=h;rw[bind_some]at h;obtain⟨n,hn,h⟩:=h;rw[aA]at h;obtain⟨I,h⟩:=h;obtain rfl:=ya h;exact⟨fs,x,J,H,rfl,hn,rfl,cE.1 I⟩
 ·simp at h
theorem B0{s:TypeId}{f:Nat}{q:Nat×Nat×TypeId}(h:kB P s f=some q)(B o:Nat)(w:World):
  (Instr.fieldAt s (.pointer (some ⟨B,o,none⟩)) f).run P w= .ok (.pointer (some ⟨B,o+q.1,none⟩)) w:=by
 obtain⟨fs,x,J,I,K,hn,ht,h1⟩:=wD h;have H: ¬(q.2.1=0):=by omega
 simp only[Instr.fieldAt,Sem.run_bind,run_underlying J,Result.andThen_ok,I,Instr.sureAddr,Sem.run_pure,fieldPlace,dZ hn,H,if_false,cO,K]
theorem HZ{t:TypeId}{n:Nat}{ag:Bool}(H:isAgg? P t=some ag)(hn:gW P t=some n){cs:Array Value}{o:Nat}(w:World)(I:ag=true\/o<cs.size):
  (part t cs o).run P w= .ok (if ag=true then .agg (cs.extract o (o+n))else cs.getD o undef) w:=by
 cases ag with
 |true=>simp only[part,Sem.run_bind,s9 H,Result.andThen_ok,if_true,dZ hn,Sem.run_pure]
 |false=>
  have J:o<cs.size:=by rcases I with h|h;cases h;exact h
  simp only[part,Sem.run_bind,s9 H,Result.andThen_ok,yl2,if_false,yo1 J,Sem.run_pure,yk,Option.getD_some]
theorem HH{G:Gh}{w:World}{s:TypeId}{f:Nat}{q:Nat×Nat×TypeId}{cs:List AV}{cv:Value}{ag:Bool}{v:AV}(h:kB P s f=some q)(M:isAgg? P q.2.2=some ag)
  (Z:VR G w (.agg cs) cv) (J:(bif ag then guardB (Nat.ble (q.1+q.2.1) cs.length) (some (AV.agg ((cs.drop q.1).take q.2.1)))else cs[q.1]?)=some v):
  ∃K,(Instr.field s cv f).run P w= .ok K w/\VR G w v K:=by
 obtain⟨fs,x,Y,N,ho,hn,ht,h1⟩:=wD h;obtain⟨cvs,rfl,V,W⟩:=Z.agg_inv;rw[<-ht]at M;have I: ∀(H:ag=true\/q.1<cvs.size),(Instr.field s (.agg cvs) f).run P w= .ok (if ag=true then .agg (cvs.extract q.1 (q.1+q.2.1))else cvs.getD q.1 undef) w:=by
  intro H;have:=HZ (P:=P) M hn (cs:=cvs) (o:=q.1) w H;simp only[Instr.field,Sem.run_bind,run_underlying Y,Result.andThen_ok,N,asAgg,Sem.run_pure,ho,this]
 cases ag with
 |true=>
  simp only[yl]at J;rw[aA]at J;obtain⟨H,J⟩:=J;have H:=cE.1 H;obtain rfl:=ya J;refine⟨_,I (.inl rfl),?_⟩;rw[if_pos rfl];refine .agg _ _ (by simp;omega) λj y U=>?_;have hj:j<q.2.1:=by have:=(yd.1 U).1;simp at this;omega
  rw[yf1 hj,yz]at U;have:=W _ y U;have O:q.1+j<cvs.size:=by omega
  simp only[yk]at this⊢
  rw[Array.getElem?_extract];rw[if_pos (by omega)];exact this
 |false=>
  simp only[yj]at J;have O:=(yd.1 J).1;exact⟨_,I (.inr (by omega)),by simpa using W _ v J⟩
theorem Gi{ρ:Operand->Option AV}: ∀{xs:List Operand} {vs:List AV},mG ρ xs=some vs->vs.length=xs.length/\∀(j:Nat) (y:AV),vs[j]?=some y->∃x,xs[j]?=some x/\ρ x=some y
 | [],vs,h=>by simp[mG]at h;subst h;exact⟨rfl,λj y H=>by simp at H⟩
 |x::r,vs,h=>by
  simp only[mG]at h;rw[bind_some]at h;obtain⟨v,M,h⟩:=h;obtain⟨J,I,rfl⟩:=yc.1 h;obtain⟨K,N⟩:=Gi I;refine⟨by simp[K],λj y H=>?_⟩;cases j with
  |zero=>simp at H;subst H;exact⟨x,rfl,M⟩
  |succ j=>simpa using N j y (by simpa using H)
theorem zA{G:Gh}{w:World}{ρ:Operand->Option AV}{a:Act}(J:MW G w ρ a){xs:Array Operand}{vs:List AV}(h:mG ρ xs.toList=some vs):nH G w vs (xs.map a.eval):=by
 obtain⟨K,N⟩:=Gi h;refine⟨by simpa using K,λj y I=>?_⟩;obtain⟨x,O,M⟩:=N j y I;have H:xs[j]?=some x:=by simpa using O
 have hj:=(yn2.1 H).1;have:=J x y M;simp only[yk,Array.getElem?_map,H,yh,Option.getD_some];exact this
theorem BT{ρ:Operand->Option AV}: ∀{xs:List (Nat×Operand)} {vs:List (Nat×AV)},jC ρ xs=some vs->
  vs.length=xs.length/\∀(j:Nat) (q:Nat×AV),vs[j]?=some q->∃x,xs[j]?=some (q.1,x)/\ρ x=some q.2
 | [],vs,h=>by simp[jC]at h;subst h;exact⟨rfl,λj y J=>by simp at J⟩
 |(i,x)::r,vs,h=>by
  simp only[jC]at h;rw[bind_some]at h;obtain⟨v,N,h⟩:=h;obtain⟨K,I,rfl⟩:=yc.1 h;obtain⟨M,O⟩:=BT I;refine⟨by simp[M],λj q H=>?_⟩;cases j with
  |zero=>simp at H;subst H;exact⟨x,rfl,N⟩
  |succ j=>simpa using O j q (by simpa using H)
def gH(G:Gh)(w:World)(as:List AV)(vs:List Value):Prop:=as.length=vs.length/\∀(j:Nat) (y:AV),as[j]?=some y->VR G w y (vs.getD j undef)
def OT(G:Gh)(w:World)(ps:List (Nat×AV))(qs:List (Nat×Value)):Prop:=ps.length=qs.length/\∀(j:Nat) (p:Nat×AV),ps[j]?=some p->∃v,qs[j]?=some (p.1,v)/\VR G w p.2 v
theorem wR{G:Gh}{w:World}{ρ:Operand->Option AV}{a:Act}(I:MW G w ρ a){xs:Array (Nat×Operand)}{vs:List (Nat×AV)}(h:jC ρ xs.toList=some vs):
  OT G w vs (xs.map λ(i,x)=>(i,a.eval x)).toList:=by
 obtain⟨K,N⟩:=BT h;refine⟨by simpa using K,λj q J=>?_⟩;obtain⟨x,O,M⟩:=N j q J;refine⟨a.eval x,?_,I x _ M⟩;have H:xs[j]?=some (q.1,x):=by simpa using O
 simp[H]
theorem gH.set{G:Gh}{w:World}{as:List AV}{vs:List Value}(h:gH G w as vs){i:Nat}{a:AV}{v:Value}(J:VR G w a v):gH G w (as.set i a) (vs.set i v):=by
 refine⟨by simp[h.1],λj y H=>?_⟩;by_cases e:j=i
 ·subst e;have I:j<as.length:=by have:=(yd.1 H).1;simpa using this
  rw[yw I]at H;simp at H;subst H;rw[yi,yw (by rw[<-h.1];exact I)];exact J
 ·rw[yp (λx=>e x.symm)]at H;rw[yi,yp (λx=>e x.symm),<-yi];exact h.2 j y H
def bB:List Value->Nat->List Value->List Value
 |cs,_,[]=>cs
 |cs,i,v::r=>bB (cs.set i v) (i+1) r
theorem gH.setCells{G:Gh}{w:World}: ∀{xs:List AV} {I:List Value} {as:List AV} {vs:List Value} {i:Nat},gH G w as vs->gH G w xs I->gH G w (setCells as i xs) (bB vs i I)
 | [],I,as,vs,i,h,H=>by
  have:=yo H.1.symm;subst this;exact h
 |x::xs,[],as,vs,i,h,H=>by simp[gH]at H
 |x::xs,y::I,as,vs,i,h,H=>by
  have J:=H.2 0 x rfl;simp only[List.getD_cons_zero]at J;simp only[Go.Ab.setCells,bB];exact gH.setCells (h.set J) ⟨by simpa using H.1,λj z K=>by simpa using H.2 (j+1) z (by simpa using K)⟩
theorem kL{as:List AV}: ∀{xs:List AV} {i:Nat} {as:List AV},(setCells as i xs).length=as.length
 | [],i,as=>rfl
 |x::xs,i,as=>by rw[Go.Ab.setCells,kL (as:=as)];simp
theorem gB: ∀{xs:List Value} {i:Nat} {as:List Value},(bB as i xs).length=as.length
 | [],i,as=>rfl
 |x::xs,i,as=>by rw[bB,gB];simp
theorem Bd: ∀(vs:List Value) (off n:Nat) (cs:Array Value),((vs.zipIdx n).foldl (λcs (c,j)=>cs.setIfInBounds (off+j) c) cs).toList=bB cs.toList (off+n) vs
 | [],off,n,cs=>rfl
 |v::vs,off,n,cs=>by
  simp only[List.zipIdx_cons,List.foldl_cons,bB];rw[Bd vs off (n+1)];simp[ys1]
theorem gH.one{G:Gh}{w:World}{a:AV}{v:Value}(h:VR G w a v):gH G w [a] [v]:=
 ⟨rfl,λj y H=>by cases j with|zero=>simp at H;subst H;exact h|succ j=>simp at H⟩
theorem VR.cells{G:Gh}{w:World}{a:AV}{v:Value}(h:VR G w a v):gH G w a.cells v.cells.toList:=by
 cases h with
 |agg cs cvs I h=>exact⟨by simpa[AV.cells,Value.cells]using I,λj y Z=>by simp only[Value.cells];rw[dR];exact h j y (by simpa[AV.cells]using Z)⟩
 |lit v U=>
  have:v.cells= #[v]:=by cases v<;>first|rfl|simp[kI]at U
  rw[this];exact gH.one (.lit v U)
 |imm β p v h hs=>
  have:v.cells= #[v]:=by cases h<;>first|rfl|simp[PV.isSl]at hs
  rw[this];exact gH.one (.imm β p v h hs)
 |unkB b=>exact gH.one (.unkB b)
 |dead v O N=>
  have:v.cells= #[v]:=by cases v<;>first|rfl|simp[kI]at N
  rw[this];exact gH.one (.dead v O N)
 |ptr b g i c L B J H=>exact gH.one (.ptr b g i c L B J H)
 |ms b g o n cap L B J H hn K M=>exact gH.one (.ms b g o n cap L B J H hn K M)
 |msNil b g L J H=>exact gH.one (.msNil b g L J H)
 |msZ b g o B oo L J H ho K=>exact gH.one (.msZ b g o B oo L J H ho K)
 |msw b g cap L B J H hn M=>exact gH.one (.msw b g cap L B J H hn M)
 |mswNil b g L J H hn=>exact gH.one (.mswNil b g L J H hn)
 |el β p c B o cv h hr=>exact gH.one (.el β p c B o cv h hr)
 |fn f V ca W cv O N M Y=>exact gH.one (.fn f V ca W cv O N M Y)
 |tup cs cvs I h=>exact gH.one (.tup cs cvs I h)
theorem w7{G:Gh}{w:World}{J:Nat->Option (Nat×Nat)}: ∀{ps:List (Nat×AV)} {qs:List (Nat×Value)} {cs I:List AV} {cvs:Array Value},BM J cs ps=some I->gH G w cs cvs.toList->OT G w ps qs->
  ∃H,Instr.fill J cvs qs=some H/\gH G w I H.toList
 | [],qs,cs,I,cvs,h,O,K=>by
  have:=yo K.1.symm;subst this;simp[BM]at h;subst h;exact⟨cvs,rfl,O⟩
 |(i,v)::r,[],cs,I,cvs,h,O,K=>by simp[OT]at K
 |(i,v)::r,(i',u)::qs,cs,I,cvs,h,O,K=>by
  obtain⟨u',Z,hv⟩:=K.2 0 (i,v) rfl;simp only[yo2,Option.some.injEq,Prod.mk.injEq]at Z;obtain⟨rfl,rfl⟩:=Z;simp only[BM]at h;rw[bind_some]at h;obtain⟨q,hq,h⟩:=h;rw[aA]at h;obtain⟨M,h⟩:=h;simp only[yb]at M;have h1:=bI.1 M.1;have h2:=cE.1 M.2;have N:=hv.cells;have W:u.cells.size=q.2:=by rw[<-h1];simpa using N.1.symm
  have hcz:cs.length=cvs.size:=by simpa using O.1
  have U:(u.cells.zipIdx.foldl (λcs (c,j)=>cs.setIfInBounds (q.1+j) c) cvs).toList=bB cvs.toList q.1 u.cells.toList:=by
   have:=Bd u.cells.toList q.1 0 cvs;rw[yk1]at this;rw[<-this,<-Array.foldl_toList];simp
  obtain⟨H,hf,Y⟩:=w7 (cvs:=u.cells.zipIdx.foldl (λcs (c,j)=>cs.setIfInBounds (q.1+j) c) cvs) h (by rw[U];exact O.setCells N)
   ⟨by simpa using K.1,λj p V=>by simpa using K.2 (j+1) p (by simpa using V)⟩
  refine⟨H,?_,Y⟩;simp only[Instr.fill,hq];rw[if_neg (by simp[W];omega)];exact hf
theorem CW: ∀{fs:List Field} {ps:List (Nat×Nat)},places? P fs=some ps->∀w:World,(fs.mapM λf=>(do pure (f.offset,<-sizeOf f.type):Sem (Nat×Nat))).run P w= .ok ps w
 | [],ps,h,w=>by simp[places?]at h;subst h;rfl
 |f::r,ps,h,w=>by
  simp only[places?]at h;rw[bind_some]at h;obtain⟨n,hn,h⟩:=h;obtain⟨J,H,rfl⟩:=yc.1 h;have I:=CW H w;simp only[List.mapM_cons,Sem.run_bind,dZ hn,Result.andThen_ok,Sem.run_pure,I]
theorem K0{G:Gh}{w:World}: ∀{vs:List Value} {as:List AV},G5 vs=some as->gH G w as vs
 | [],as,h=>by simp[G5]at h;subst h;exact⟨rfl,λj y H=>by simp at H⟩
 |v::r,as,h=>by
  simp only[G5]at h;rw[aA]at h;obtain⟨K,h⟩:=h;obtain⟨M,I,rfl⟩:=yc.1 h;have J:=K0 (G:=G) (w:=w) I;exact⟨by simp[J.1],λj y H=>by
   cases j with
   |zero=>simp at H;subst H;exact .lit v K
   |succ j=>simpa using J.2 j y (by simpa using H)⟩
theorem kD{G:Gh}{w:World}{v:Value}{a:AV}(h:vS v=some a):VR G w a v:=by
 unfold vS at h;split at h
 ·rename_i cs;obtain⟨as,I,rfl⟩:=yc.1 h;have:=K0 (G:=G) (w:=w) I;exact .agg as cs (by simpa using this.1) (λj y J=>by rw[<-dR];exact this.2 j y J)
 ·rename_i H;obtain rfl:=ya h;exact .lit v (by cases v<;>first|rfl|exact absurd rfl (H _))
theorem jE{t:TypeId}{z:AV}(h:zero? P t=some z): ∃i v,P.info? t=some i/\i.zero=some v/\vS v=some z:=by
 unfold zero? at h;rw[bind_some]at h;obtain⟨v,H,h⟩:=h;rw[bind_some]at H;obtain⟨i,I,H⟩:=H;exact⟨i,v,I,H,h⟩
theorem IN{t:TypeId}{z:AV}(h:zero? P t=some z)(G:Gh)(w:World): ∃v,(zeroValue t).run P w= .ok v w/\VR G w z v/\(∀H,(zeroValue t).run P H= .ok v H)/\vS v=some z:=by
 obtain⟨i,v,J,I,K⟩:=jE h;exact⟨v,by simp[zeroValue,typeInfo,J,I],kD K,λH=>by simp[zeroValue,typeInfo,J,I],K⟩
theorem HE{G:Gh}{w:World}{t:TypeId}{ps:List (Nat×AV)}{qs:Array (Nat×Value)}{v:AV}(h:AL P t ps=some v)(Z:OT G w ps qs.toList):
  ∃cv,(Instr.build t qs).run P w= .ok cv w/\VR G w v cv:=by
 unfold AL at h;rw[bind_some]at h;obtain⟨z,hz,h⟩:=h;obtain⟨zv,I,J,_⟩:=IN hz G w;split at h
 ·rename_i fs M;rw[bind_some]at h;obtain⟨Y,O,h⟩:=h;obtain⟨cs,H,rfl⟩:=yc.1 h;obtain⟨cvs,W,K⟩:=w7 H J.cells Z;refine⟨.agg cvs,?_,.agg cs cvs (by simpa using K.1) (λj y V=>by rw[<-dR];exact K.2 j y V)⟩;have U:(fs.mapM λf=>(do pure (f.offset,<-sizeOf f.type):Sem (Nat×Nat))).run P w= .ok Y.toArray w:=by
   rw[Array.mapM_eq_mapM_toList,Sem.run_map,CW O w];rfl
  have N:Instr.fill (λi=>Y.toArray[i]?) zv.cells qs.toList=some cvs:=by rw[<-W];congr 1;funext i;simp
  simp only[Instr.build,Sem.run_bind,I,Result.andThen_ok,run_underlying M,U,N,Sem.run_pure]
 ·rename_i n e M;rw[bind_some]at h;obtain⟨s,hs,h⟩:=h;obtain⟨cs,H,rfl⟩:=yc.1 h;obtain⟨cvs,W,K⟩:=w7 H J.cells Z;refine⟨.agg cvs,?_,.agg cs cvs (by simpa using K.1) (λj y V=>by rw[<-dR];exact K.2 j y V)⟩;simp only[Instr.build,Sem.run_bind,I,Result.andThen_ok,run_underlying M,dZ hs,W,Sem.run_pure]
 ·simp at h
end
end Go.Ab
end
