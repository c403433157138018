/- The evaluator. -/
import Derived.Orders
import Derived.Laws.Sem
import Derived.WalkKit
import Derived.Deep.AppendSrc
set_option linter.unusedVariables false
set_option linter.unusedSectionVars false
set_option linter.unusedSimpArgs false
section
namespace Go.Ab
theorem ya:type_of% @Option.bind_some:= @Option.bind_some
theorem yb:type_of% @Option.some.inj:= @Option.some.inj
theorem yc:type_of% @Bool.and_eq_true:= @Bool.and_eq_true
theorem yd:type_of% @List.getElem?_eq_some_iff:= @List.getElem?_eq_some_iff
theorem ye:type_of% @List.getElem?_eq_getElem:= @List.getElem?_eq_getElem
theorem yf:type_of% @Option.map_eq_some_iff:= @Option.map_eq_some_iff
theorem yg:type_of% @cond_false:= @cond_false
theorem yh:type_of% @cond_true:= @cond_true
theorem yi:type_of% @List.length_append:= @List.length_append
theorem yj:type_of% @List.mem_of_getElem?:= @List.mem_of_getElem?
theorem yk:type_of% @List.mem_cons_of_mem:= @List.mem_cons_of_mem
theorem yl:type_of% @Option.map_some:= @Option.map_some
theorem ym:type_of% @List.getD_eq_getElem?_getD:= @List.getD_eq_getElem?_getD
theorem yn:type_of% @List.mem_cons_self:= @List.mem_cons_self
theorem yo:type_of% @Array.getD_eq_getD_getElem?:= @Array.getD_eq_getD_getElem?
theorem yp:type_of% @List.getElem?_set_ne:= @List.getElem?_set_ne
theorem yq:type_of% @List.getElem?_append_left:= @List.getElem?_append_left
theorem yt:type_of% @List.getElem?_set_self:= @List.getElem?_set_self
theorem yu:type_of% @List.eq_nil_of_length_eq_zero:= @List.eq_nil_of_length_eq_zero
theorem yw:type_of% @List.length_cons:= @List.length_cons
theorem yx:type_of% @Bool.not_eq_true':= @Bool.not_eq_true'
theorem yy:type_of% @List.getElem?_append_right:= @List.getElem?_append_right
theorem yz:type_of% @Int.toNat_natCast:= @Int.toNat_natCast
theorem ya1:type_of% @List.all_eq_true:= @List.all_eq_true
theorem yb1:type_of% @Nat.le_refl:= @Nat.le_refl
theorem yc1:type_of% @List.getElem?_eq_none:= @List.getElem?_eq_none
theorem yd1:type_of% @List.cons.inj:= @List.cons.inj
theorem ye1:type_of% @Nat.zero_add:= @Nat.zero_add
theorem yf1:type_of% @Bool.not_true:= @Bool.not_true
theorem yg1:type_of% @List.getElem?_drop:= @List.getElem?_drop
theorem yh1:type_of% @List.getElem?_map:= @List.getElem?_map
theorem yi1:type_of% @List.mem_singleton:= @List.mem_singleton
theorem yj1:type_of% @Bool.and_self:= @Bool.and_self
theorem yk1:type_of% @List.mem_cons:= @List.mem_cons
theorem yl1:type_of% @Nat.ble_eq_true_of_le:= @Nat.ble_eq_true_of_le
theorem ym1:type_of% @List.length_map:= @List.length_map
theorem yn1:type_of% @List.length_singleton:= @List.length_singleton
theorem yo1:type_of% @List.getElem?_cons_succ:= @List.getElem?_cons_succ
theorem yp1:type_of% @Option.bind_eq_some_iff:= @Option.bind_eq_some_iff
theorem yq1:type_of% @Bool.true_and:= @Bool.true_and
theorem yr1:type_of% @List.mem_append:= @List.mem_append
theorem ys1:type_of% @List.append_nil:= @List.append_nil
theorem yt1:type_of% @List.getElem?_replicate:= @List.getElem?_replicate
theorem yu1:type_of% @List.getElem?_take_of_lt:= @List.getElem?_take_of_lt
theorem yw1:type_of% @List.append_assoc:= @List.append_assoc
theorem yx1:type_of% @Array.getElem?_toList:= @Array.getElem?_toList
theorem yy1:type_of% @List.getElem?_take:= @List.getElem?_take
theorem yz1:type_of% @Nat.add_mul:= @Nat.add_mul
theorem ya2:type_of% @Nat.add_zero:= @Nat.add_zero
theorem yb2:type_of% @List.getElem_of_mem:= @List.getElem_of_mem
theorem yc2:type_of% @List.mem_append_left:= @List.mem_append_left
theorem yd2:type_of% @List.drop_zero:= @List.drop_zero
theorem ye2:type_of% @List.mem_append_right:= @List.mem_append_right
theorem yf2:type_of% @List.getElem_mem:= @List.getElem_mem
theorem yg2:type_of% @Array.getElem?_eq_getElem:= @Array.getElem?_eq_getElem
theorem yh2:type_of% @Bool.or_eq_true:= @Bool.or_eq_true
theorem yi2:type_of% @Array.length_toList:= @Array.length_toList
theorem yj2:type_of% @List.length_take:= @List.length_take
theorem yk2:type_of% @Nat.add_assoc:= @Nat.add_assoc
theorem yl2:type_of% @List.map_cons:= @List.map_cons
theorem ym2:type_of% @List.mem_or_eq_of_mem_set:= @List.mem_or_eq_of_mem_set
theorem yn2:type_of% @Nat.lt_of_lt_of_le:= @Nat.lt_of_lt_of_le
theorem yo2:type_of% @Bool.not_false:= @Bool.not_false
theorem yp2:type_of% @List.take_of_length_le:= @List.take_of_length_le
theorem yq2:type_of% @Nat.lt_or_ge:= @Nat.lt_or_ge
theorem yr2:type_of% @Nat.mul_le_mul_right:= @Nat.mul_le_mul_right
theorem yt2:type_of% @Bool.false_eq_true:= @Bool.false_eq_true
theorem yu2:type_of% @List.take_length:= @List.take_length
theorem yv2:type_of% @Nat.le_trans:= @Nat.le_trans
theorem yw2:type_of% @List.length_eq_one_iff:= @List.length_eq_one_iff
theorem yx2:type_of% @Array.toArray_toList:= @Array.toArray_toList
theorem yy2:type_of% @List.length_range:= @List.length_range
theorem yz2:type_of% @List.length_nil:= @List.length_nil
theorem ya3:type_of% @List.mem_replicate:= @List.mem_replicate
theorem yb3:type_of% @Nat.mul_comm:= @Nat.mul_comm
theorem yc3:type_of% @Int.eq_ofNat_of_zero_le:= @Int.eq_ofNat_of_zero_le
theorem yd3:type_of% @Nat.lt_succ_self:= @Nat.lt_succ_self
theorem ye3:type_of% @List.take_add_one:= @List.take_add_one
theorem yf3:type_of% @Array.getElem?_eq_some_iff:= @Array.getElem?_eq_some_iff
theorem yg3:type_of% @List.length_set:= @List.length_set
theorem yh3:type_of% @List.getElem_append_right:= @List.getElem_append_right
theorem yi3:type_of% @List.length_replicate:= @List.length_replicate
theorem yj3:type_of% @List.getElem?_cons_zero:= @List.getElem?_cons_zero
theorem yk3:type_of% @List.mem_of_mem_take:= @List.mem_of_mem_take
theorem yl3:type_of% @List.mem_map:= @List.mem_map
theorem ym3:type_of% @Array.getElem?_append_left:= @Array.getElem?_append_left
theorem yn3:type_of% @List.all_cons:= @List.all_cons
theorem yo3:type_of% @List.cons_append:= @List.cons_append
theorem yp3:type_of% @List.map_take:= @List.map_take
theorem yq3:type_of% @List.drop_left:= @List.drop_left
theorem yr3:type_of% @Nat.beq_refl:= @Nat.beq_refl
theorem ys3:type_of% @Nat.zero_mul:= @Nat.zero_mul
theorem yt3:type_of% @Nat.mul_one:= @Nat.mul_one
theorem yu3:type_of% @List.drop_eq_getElem_cons:= @List.drop_eq_getElem_cons
theorem yv3:type_of% @List.map_append:= @List.map_append
theorem yw3:type_of% @List.nil_append:= @List.nil_append
theorem yx3:type_of% @Array.getElem?_replicate:= @Array.getElem?_replicate
theorem yy3:type_of% @Nat.add_sub_cancel_left:= @Nat.add_sub_cancel_left
theorem yz3:type_of% @List.replicate_succ:= @List.replicate_succ
theorem ya4:type_of% @Bool.and_true:= @Bool.and_true
theorem yb4:type_of% @Bool.false_or:= @Bool.false_or
theorem yc4:type_of% @List.take_succ_cons:= @List.take_succ_cons
theorem yd4:type_of% @List.length_drop:= @List.length_drop
theorem ye4:type_of% @List.getElem_zip:= @List.getElem_zip
theorem yf4:type_of% @List.map_nil:= @List.map_nil
theorem yg4:type_of% @List.ext_getElem?:= @List.ext_getElem?
theorem yh4:type_of% @List.map_drop:= @List.map_drop
theorem yi4:type_of% @List.take_zero:= @List.take_zero
theorem yj4:type_of% @Bool.cond_eq_ite:= @Bool.cond_eq_ite
theorem yk4:type_of% @Nat.lt_irrefl:= @Nat.lt_irrefl
class cS where
 tab:Nat->Option (Int×Int)
noncomputable section
def fD{α:Type}(l:List α):Nat->Option α:=List.rec (λ_=>none) (λa _ ih n=>Nat.rec (some a) (λm _=>ih m) n) l
def wM{α:Type}(v:α)(l:List α):Nat->List α:=List.rec (λ_=> []) (λa r ih n=>Nat.rec (v::r) (λm _=>a::ih m) n) l
theorem bH{α:Type}: ∀(l:List α) (n:Nat),fD l n=l[n]?
 | [],n=>by simp[fD]
 |a::r,0=>rfl
 |a::r,n+1=>by rw[yo1,<-bH r n];rfl
theorem eS{α:Type}(v:α): ∀(l:List α) (n:Nat),wM v l n=l.set n v
 | [],n=>by simp[wM]
 |a::r,0=>rfl
 |a::r,n+1=>by rw[List.set_cons_succ,<-eS v r n];rfl
inductive PV where
 |lit (v:Value)
 |ints (k:IntKind) (xs:List Int)
 |sl (e:Nat) (xs:List PV)
 |agg (cs:List PV)
 deriving Inhabited
inductive AV where
 |lit (v:Value)
 |imm (β:Bool) (p:PV)
 |ptr (b g i c:Nat)
 |ms (b g o n:Nat)
 |msw (b g:Nat)
 |el (β:Bool) (p:PV) (c:Nat)
 |fn (f:Fn) (first cap:List AV)
 |agg (cs:List AV)
 |tup (vs:List AV)
 deriving Inhabited
inductive bC where
 |ints (k:IntKind) (xs:List Int)
 |pvs (β:Bool) (e:Nat) (xs:List PV)
 |cells (e:Nat) (cs:List AV)
 |own (e:Nat) (xs:List PV) (hs:List (Nat×Nat×AV))
 deriving Inhabited
structure bV where
 gen:Nat
 frz:Bool
 row:bC
 deriving Inhabited
abbrev aO:=List (Option bV)
structure St where
 tmps:List AV
 mem:aO
structure o5 where
 live:List (Nat×List Nat):= []
 raw:List (Nat×Nat):= []
 boxed:List (Nat×Nat):= []
 vars:List (Nat×Nat):= []
 hint:List (Nat×Nat×Int):= []
 own:List (Nat×Nat):= []
 keep:List Nat:= []
 tidy:List (Nat×List Nat×List (Operand×Nat×Operand×Nat)):= []
def dS{α:Type}(n:Nat):List (Nat×α)->Option α
 | []=>none
 |(m,x)::r=>bif Nat.beq m n then some x else dS n r
def bP(a b:Nat):List (Nat×Nat)->Bool
 | []=>false
 |(m,x)::r=>(Nat.beq m a&&Nat.beq x b)||bP a b r
def eY(n:Nat):List Nat->Bool
 | []=>false
 |m::r=>Nat.beq m n||eY n r
def guardB{α:Type}(c:Bool)(x:Option α):Option α:=bif c then x else none
def aF{α:Type}(xs:List α)(i:Int):Option α:=bif decide (0≤i)then xs[i.toNat]? else none
def jS(a b:IntKind):Bool:=
 match a,b with
 | .i8,.i8| .i16,.i16| .i32,.i32| .i64,.i64| .u8,.u8| .u16,.u16| .u32,.u32| .u64,.u64=>true
 |_,_=>false
def PV.int?(k:IntKind):PV->Option Int
 | .lit (.int k' n)=>bif jS k k' then some n else none
 |_=>none
def PV.bool?:PV->Option Bool
 | .lit (.bool b)=>some b
 |_=>none
def PV.str?:PV->Option ByteArray
 | .lit (.string s)=>some s
 |_=>none
def PV.ints?(k:IntKind):PV->Option (List Int)
 | .ints k' xs=>bif jS k k' then some xs else none
 |_=>none
def PV.sl?(e:Nat):PV->Option (List PV)
 | .sl e' xs=>bif Nat.beq e e' then some xs else none
 |_=>none
def PV.cells:PV->List PV
 | .agg cs=>cs
 |p=> [p]
inductive LK where
 |int (k:IntKind)|bool|str|ints (k:IntKind)|sl (t:TypeId) (e:Nat)
section
variable (P:Program)
def k8(t:TypeId):Option Nat:=(P.info? t).map (·.size)
def l8(t:TypeId):Option Nat:=(P.info? t).map (·.bytes)
def intKind?(t:TypeId):Option IntKind:=
 match P.underlying t with
 |some (.int k)=>some k
 |_=>none
def elemOf?(t:TypeId):Option TypeId:=
 match P.underlying t with
 |some (.slice e)=>some e
 |_=>none
def isAgg?(t:TypeId):Option Bool:=
 match P.underlying t with
 |some (.struct _)=>some true
 |some (.array _ _)=>some true
 |some _=>some false
 |none=>none
def leaf?(t:TypeId):Option LK:=
 match P.underlying t with
 |some (.int k)=>some (.int k)
 |some .bool=>some .bool
 |some .string=>some .str
 |some (.slice e)=>
  match intKind? P e with
  |some k=>some (.ints k)
  |none=>(k8 P e).map (.sl e)
 |_=>none
def OC(leaves:TypeId->Option (List LK)):List Field->Option (List LK)
 | []=>some []
 |f::r=>(leaves f.type).bind λa=>(OC leaves r).map (a++ ·)
def leaves?:Nat->TypeId->Option (List LK)
 |0,_=>none
 |n+1,t=>
  match P.underlying t with
  |some (.struct fs)=>OC (leaves? n) fs.toList
  |_=>(leaf? P t).map λl=> [l]
def iO(β:Bool)(l:LK)(q:PV):Option AV:=
 match l with
 | .int k=>(q.int? k).bind λx=>some (.lit (.int k x))
 | .bool=>q.bool?.bind λx=>some (.lit (.bool x))
 | .str=>q.str?.bind λx=>some (.lit (.string x))
 | .ints k=>(q.ints? k).bind λx=>some (.imm β (.ints k x))
 | .sl _ e=>(q.sl? e).bind λx=>some (.imm β (.sl e x))
def jE(β:Bool)(cs:List PV):List LK->Nat->Option (List AV)
 | [],_=>some []
 |l::r,c=>(cs[c]?).bind λq=>(iO β l q).bind λa=>(jE β cs r (c+1)).bind λas=>some (a::as)
def QS(β:Bool)(t:TypeId)(p:PV)(c:Nat):Option AV:=
 match isAgg? P t with
 |some true=>(leaves? P 8 t).bind λls=>(k8 P t).bind λn=>guardB (Nat.beq n ls.length) ((jE β p.cells ls c).bind λas=>some (.agg as))
 |some false=>(leaf? P t).bind λl=>(p.cells[c]?).bind λq=>iO β l q
 |none=>none
def oQ:Value->Bool
 | .agg _=>false
 |_=>true
def Mm:List Value->Option (List AV)
 | []=>some []
 |v::r=>guardB (oQ v) ((Mm r).map (.lit v:: ·))
def BM:Value->Option AV
 | .agg cs=>(Mm cs.toList).map .agg
 |v=>some (.lit v)
def zero?(t:TypeId):Option AV:=((P.info? t).bind (·.zero)).bind BM
def AV.dead:AV:= .imm false (.agg [])
def AV.unkB:AV:= .imm true (.lit (.bool false))
open Classical in
def amb{α:Type}(a b:Option α):Option α:=if a=b then a else none
def AV.goneV:AV:= .imm true (.agg [])
def iP:AV->Bool
 | .imm true (.agg _)=>true
 |_=>false
def AV.cells:AV->List AV
 | .agg cs=>cs
 |v=> [v]
inductive aP where
 |ints (k:IntKind) (xs:List Int)
 |pvs (β:Bool) (e:Nat) (xs:List PV)
 |avs (e:Nat) (cs:List AV)
def aY(e:Nat)(n:Nat):Nat:=bif Nat.beq e 0 then 0 else bif Nat.beq e 1 then n else n/e
def aP.len:aP->Nat
 | .ints _ xs=>xs.length
 | .pvs _ _ xs=>xs.length
 | .avs e cs=>aY e cs.length
def aP.imm?:aP->Option AV
 | .ints k xs=>some (.imm false (.ints k xs))
 | .pvs β e xs=>some (.imm β (.sl e xs))
 | .avs _ _=>none
def aP.row:aP->bC
 | .ints k xs=> .ints k xs
 | .pvs β e xs=> .pvs β e xs
 | .avs e cs=> .cells e cs
def gP(k:IntKind):List AV->Option (List Int)
 | []=>some []
 | .lit (.int k' x)::r=>bif jS k k' then(gP k r).map (x:: ·)else none
 |_::_=>none
def bC.len:bC->Nat
 | .ints _ xs=>xs.length
 | .pvs _ _ xs=>xs.length
 | .cells e cs=>aY e cs.length
 | .own _ xs _=>xs.length
def bC.e:bC->Nat
 | .ints _ _=>1
 | .pvs _ e _=>e
 | .cells e _=>e
 | .own e _ _=>e
def aP.e:aP->Nat
 | .ints _ _=>1
 | .pvs _ e _=>e
 | .avs e _=>e
def bC.all:bC->aP
 | .ints k xs=> .ints k xs
 | .pvs β e xs=> .pvs β e xs
 | .cells e cs=> .avs e cs
 | .own e xs _=> .pvs true e xs
def bC.sub(o n:Nat):bC->Option aP
 | .ints k xs=>guardB (Nat.ble (o+n) xs.length) (some (.ints k ((xs.drop o).take n)))
 | .pvs β e xs=>guardB (Nat.ble (o+n) xs.length) (some (.pvs β e ((xs.drop o).take n)))
 | .cells e cs=>guardB (Nat.ble ((o+n)*e) cs.length) (some (.avs e ((cs.drop (o*e)).take (n*e))))
 | .own _ _ _=>none
def bC.isInts:bC->Bool
 | .ints _ _=>true
 |_=>false
def bC.isOwn:bC->Bool
 | .own _ _ _=>true
 |_=>false
def box?(mem:aO)(b g:Nat):Option bV:=
 match mem[b]? with
 |some (some x)=>bif Nat.beq x.gen g&&!x.row.isOwn then some x else none
 |_=>none
def boxO?(mem:aO)(b g:Nat):Option bV:=
 match mem[b]? with
 |some (some x)=>bif Nat.beq x.gen g&&x.row.isOwn then some x else none
 |_=>none
def c7(s:ByteArray):List Int:=s.data.toList.map λb=>(b.toNat:Int)
def s9(xs:List Int):ByteArray:=⟨(xs.map λn=>UInt8.ofNat n.toNat).toArray⟩
def B9:LK->Bool
 | .int _=>true
 | .bool=>true
 | .str=>true
 |_=>false
def P3(et:TypeId):Bool:=
 match leaves? P 8 et with
 |some ls=>ls.all B9
 |none=>false
def Q6:PV->Bool
 | .lit _=>true
 |_=>false
def Fj(p:PV):Bool:=p.cells.all Q6
def view(et:TypeId)(mem:aO):AV->Option (aP×List Nat)
 | .imm _ (.ints k xs)=>some (.ints k xs,[])
 | .imm β (.sl e xs)=>some (.pvs (bif P3 P et&&xs.all Fj then false else β) e xs,[])
 | .ms b g o n=>(box? mem b g).bind λx=>(x.row.sub o n).map λv=>(v,[b])
 | .msw b g=>(box? mem b g).bind λx=>some (x.row.all,[b])
 | .lit (.string s)=>some (.ints .u8 (c7 s),[])
 | .lit (.slice none 0 0)=>
  match intKind? P et with
  |some k=>some (.ints k [],[])
  |none=>(k8 P et).map λe=>(.pvs false e [],[])
 |_=>none
def lenOf(t:TypeId)(mem:aO)(x:AV):Option (Nat×List Nat):=
 match P.underlying t with
 |some .string=>
  match x with
  | .lit (.string s)=>some (s.size,[])
  |_=>none
 |some (.slice _)=>
  match x with
  | .imm _ (.ints _ xs)=>some (xs.length,[])
  | .imm _ (.sl _ xs)=>some (xs.length,[])
  | .ms b g o n=>some (n,[])
  | .msw b g=>(box? mem b g).map λx=>(x.row.len,[b])
  | .lit (.slice none 0 0)=>some (0,[])
  |_=>none
 |_=>none
def Mz:AV->Bool
 | .lit v=>v.oneCell'
 | .agg _=>false
 | .tup _=>false
 |_=>true
def lX:List AV->Bool
 | []=>true
 |v::r=>Mz v&&lX r
def chunks{α:Type}(e:Nat):Nat->List α->List (List α)
 |0,_=> []
 |n+1,cs=>cs.take e::chunks e n (cs.drop e)
def zU(t:TypeId)(cs:List PV):Option PV:=
 match isAgg? P t with
 |some true=>some (.agg cs)
 |some false=>(match cs with| [c]=>some c|_=>none)
 |none=>none
def i7{α β:Type}(f:α->Option (Bool×β×List Nat)):List α->Option (Bool×List β×List Nat)
 | []=>some (false,[],[])
 |v::r=>(f v).bind λa=>(i7 f r).bind λq=>some (a.1||q.1,a.2.1::q.2.1,a.2.2++q.2.2)
def cP{α β γ:Type}(f:γ->α->Option (Bool×β×List Nat)):List γ->List α->Option (Bool×List β×List Nat)
 | [],[]=>some (false,[],[])
 |l::ls,v::r=>(f l v).bind λa=>(cP f ls r).bind λq=>some (a.1||q.1,a.2.1::q.2.1,a.2.2++q.2.2)
 |_,_=>none
def bM(mem:aO):Nat->LK->AV->Option (Bool×PV×List Nat)
 |0,_,_=>none
 |n+1,l,v=>
  match l,v with
  | .int k,.lit (.int k' x)=>guardB (jS k k') (some (false,.lit (.int k' x),[]))
  | .bool,.lit (.bool b)=>some (false,.lit (.bool b),[])
  | .str,.lit (.string s)=>some (false,.lit (.string s),[])
  | .ints k,.imm β (.ints k' xs)=>guardB (jS k k') (some (β,.ints k' xs,[]))
  | .ints k,.lit (.slice none 0 0)=>some (false,.ints k [],[])
  | .ints k,.msw b g=>(box? mem b g).bind λx=>treeInts k b x.row.all
  | .ints k,.ms b g o m=>(box? mem b g).bind λx=>(x.row.sub o m).bind λw=>treeInts k b w
  | .sl _ e,.imm β (.sl e' xs)=>guardB (Nat.beq e e') (some (β,.sl e' xs,[]))
  | .sl _ e,.lit (.slice none 0 0)=>some (false,.sl e [],[])
  | .sl t e,.msw b g=>(box? mem b g).bind λx=>treeSl (bM mem n) t e b x.row.all
  | .sl t e,.ms b g o m=>(box? mem b g).bind λx=>(x.row.sub o m).bind λw=>treeSl (bM mem n) t e b w
  |_,_=>none
 where
 treeInts (k:IntKind) (b:Nat) (w:aP):Option (Bool×PV×List Nat):=
  match w with
  | .ints k' xs=>guardB (jS k k') (some (false,.ints k' xs,[b]))
  | .avs e cs=>guardB (Nat.beq e 1) ((gP k cs).map λxs=>(false,.ints k xs,[b]))
  |_=>none
 treeSl (f:LK->AV->Option (Bool×PV×List Nat)) (t:TypeId) (e b:Nat) (w:aP):Option (Bool×PV×List Nat):=
  match w with
  | .pvs β e' xs=>guardB (Nat.beq e e') (some (β,.sl e' xs,[b]))
  | .avs e' cs=>guardB (Nat.beq e e'&&Nat.ble 1 e) ((leaves? P 8 t).bind λls=>
    (i7 (fun vs => (cP f ls vs).bind fun q => (zU P t q.2.1).map fun p => (q.1, p, q.2.2)) (chunks e (aY e cs.length) cs)).map fun q => (q.1, .sl e q.2.1, b :: q.2.2))
  |_=>none
def KD:Nat:=6
def rC(mem:aO)(v:AV):Option (Nat×Nat×List PV):=
 match v with
 | .msw b g=>(boxO? mem b g).bind λx=>match x.row with
  | .own e xs []=>guardB (!x.frz) (some (b,e,xs))
  |_=>none
 | .ms b g 0 n=>(boxO? mem b g).bind λx=>match x.row with
  | .own e xs []=>guardB (!x.frz&&Nat.ble n xs.length) (some (b,e,xs.take n))
  |_=>none
 |_=>none
def lS(mem:aO)(l:LK)(v:AV):Option (Bool×PV×List Nat):=
 match rC mem v with
 |some q=>match l with
  | .sl _ e=>guardB (Nat.beq e q.2.1) (some (false,.sl e q.2.2,[q.1]))
  |_=>none
 |none=>bM P mem KD l v
def yQ(mem:aO)(t:TypeId)(v:AV):Option (Bool×PV×List Nat):=
 (leaves? P 8 t).bind λls=>(cP (lS P mem) ls v.cells).bind λr=>(zU P t r.2.1).map λp=>(r.1,p,r.2.2)
def bC.shut:bC->bC
 | .own e xs _=> .pvs false e xs
 |r=>r
def bC.okShut:bC->Bool
 | .own _ _ (_::_)=>false
 |_=>true
def cM(mem:aO):List Nat->List (Nat×bV)
 | []=> []
 |b::r=>match mem[b]? with
  |some (some x)=>bif x.row.okShut then(b,{x with frz:=true,row:=x.row.shut})::cM mem r else cM mem r
  |_=>cM mem r
def jD:List AV->List AV
 | []=> []
 |v::r=>v.cells++jD r
def gV:List Nat->Bool
 | []=>true
 |_=>false
def pK(e:Nat):List AV->Bool
 | []=>true
 |v::r=>Nat.beq v.cells.length e&&pK e r
def p6(vars:Bool)(mem:aO)(t:TypeId)(vs:List AV):Option (aP×List Nat):=
 match intKind? P t with
 |some k=>(gP k vs).map λxs=>(.ints k xs,[])
 |none=>(k8 P t).bind λe=>
  bif vars then guardB (pK e vs&&Nat.ble 1 e&&lX (jD vs)) (some (.avs e (jD vs),[]))
  else(i7 (yQ P mem t) vs).map λr=>(.pvs r.1 e r.2.1,r.2.2)
def JF(t:TypeId)(β:Bool)(e:Nat):List PV->Option (List AV)
 | []=>some []
 |p::r=>(QS P β t p 0).bind λv=>guardB (Nat.beq v.cells.length e) ((JF t β e r).map (v.cells++ ·))
def aP.toAvs(t:TypeId):aP->Option (List AV)
 | .ints k xs=>some (xs.map λx=> .lit (.int k x))
 | .pvs β e xs=>JF P t β e xs
 | .avs e cs=>some cs
structure dY where
 v:AV
 rd:List Nat:= []
 wr:List (Nat×bV):= []
 push:aO:= []
abbrev cC:=FuncId->List AV->aO->Option (AV×aO)
def aR(mem:aO):List (Nat×bV)->aO
 | []=>mem
 |(b,x)::r=>aR (mem.set b (some x)) r
def dY.apply(o:dY)(mem:aO):aO:=aR mem o.wr++o.push
def wN(op:BinOp)(x y:Value):Option Value:=
 match x,y with
 | .int k a,.int k' b=>
  match op with
  | .shl=>guardB (decide (0≤b)) (some (.int k (k.wrap (a*2 ^ (min b.toNat k.bits)))))
  | .shr=>guardB (decide (0≤b)) (some (.int k (a.fdiv (2 ^ (min b.toNat k.bits)))))
  | .add=>guardB (jS k k') (some (.int k (k.wrap (a+b))))
  | .sub=>guardB (jS k k') (some (.int k (k.wrap (a-b))))
  | .mul=>guardB (jS k k') (some (.int k (k.wrap (a*b))))
  | .quo=>guardB (jS k k') (guardB (!(b==0)) (some (.int k (k.wrap (a.tdiv b)))))
  | .rem=>guardB (jS k k') (guardB (!(b==0)) (some (.int k (a.tmod b))))
  | .and=>guardB (jS k k') (some (.int k (k.wrap (BitVec.ofInt k.bits a &&& BitVec.ofInt k.bits b).toNat)))
  | .or=>guardB (jS k k') (some (.int k (k.wrap (BitVec.ofInt k.bits a ||| BitVec.ofInt k.bits b).toNat)))
  | .xor=>guardB (jS k k') (some (.int k (k.wrap (BitVec.ofInt k.bits a ^^^ BitVec.ofInt k.bits b).toNat)))
  | .andNot=>guardB (jS k k') (some (.int k (k.wrap (BitVec.ofInt k.bits a &&& ~~~BitVec.ofInt k.bits b).toNat)))
  | .eql=>guardB (jS k k') (some (.bool (a==b)))
  | .neq=>guardB (jS k k') (some (.bool (a !=b)))
  | .lss=>guardB (jS k k') (some (.bool (decide (a<b))))
  | .leq=>guardB (jS k k') (some (.bool (decide (a≤b))))
  | .gtr=>guardB (jS k k') (some (.bool (decide (a>b))))
  | .geq=>guardB (jS k k') (some (.bool (decide (a≥b))))
 | .bool a,.bool b=>
  match op with
  | .eql=>some (.bool (a==b))
  | .neq=>some (.bool (!(a==b)))
  |_=>none
 | .string a,.string b=>
  match op with
  | .eql=>some (.bool (a.toList==b.toList))
  | .neq=>some (.bool (!(a.toList==b.toList)))
  |_=>none
 |_,_=>none
def KJ(op:UnOp)(x:Value):Option Value:=
 match op,x with
 | .neg,.int k n=>some (.int k (k.wrap (0-n)))
 | .xor,.int k n=>some (.int k (k.wrap (BitVec.ofInt k.bits (if k.signed then-1 else k.max) ^^^ BitVec.ofInt k.bits n).toNat))
 | .not,.bool b=>some (.bool (!b))
 |_,_=>none
def Ek(t:TypeId)(a b:AV):Option Bool:=
 match P.underlying t,a,b with
 |some (.int _),.lit (.int k a),.lit (.int k' b)=>guardB (jS k k') (some (a==b))
 |some .bool,.lit (.bool a),.lit (.bool b)=>some (a==b)
 |some .string,.lit (.string a),.lit (.string b)=>some (a.toList==b.toList)
 |_,_,_=>none
def nU:List Field->Nat->List AV->List AV->Option Bool
 | [],_,[],[]=>some true
 |f::fs,n,a::as,b::bs=>guardB ((f.name != "_")&&Nat.beq f.offset n) ((Ek P f.type a b).bind fun q=>(nU fs (n+1) as bs).map fun r=>q&&r)
 |_,_,_,_=>none
def pT(t:TypeId)(a b:List AV):Option Bool:=
 match P.underlying t with
 |some (.struct fs)=>guardB ((!(P.stoodInHeld t))&&(!(P.eqGuardType P.depth t))) (nU P fs.toList 0 a b)
 |_=>none
def K7(t:TypeId):Bool:=
 match P.underlying t with
 |some (.pointer _)=>true
 |_=>false
def My(t:TypeId):Bool:=
 match P.underlying t with
 |some .bool=>true
 |_=>false
def Io(t:TypeId)(a b:Value):Bool:=
 match a,b with
 | .bool _,.bool _=>My P t
 |_,_=>true
def Dp(t:TypeId):Bool:=
 match P.underlying t with
 |some (.slice _)=>true
 |_=>false
def nM:PV->Option Bool
 | .ints _ xs=>some xs.isEmpty
 | .sl _ xs=>some xs.isEmpty
 |_=>none
def yN(op:BinOp)(t:TypeId)(x y:AV):Option AV:=
 match x,y with
 | .imm _ p,.lit (.slice none 0 0)=>
  match op with
  | .eql=>guardB (Dp P t) ((nM p).map λe=>bif e then .unkB else .lit (.bool false))
  | .neq=>guardB (Dp P t) ((nM p).map λe=>bif e then .unkB else .lit (.bool true))
  |_=>none
 | .lit (.slice none 0 0),.lit (.slice none 0 0)=>
  match op with
  | .eql=>guardB (Dp P t) (some (.lit (.bool true)))
  | .neq=>guardB (Dp P t) (some (.lit (.bool false)))
  |_=>none
 | .lit a,.lit b=>guardB (Io P t a b) ((wN op a b).map .lit)
 | .agg a,.agg b=>
  match op with
  | .eql=>(pT P t a b).map λr=> .lit (.bool r)
  | .neq=>(pT P t a b).map λr=> .lit (.bool (!r))
  |_=>none
 | .ptr _ _ _ _,.lit (.pointer none)| .el _ _ _,.lit (.pointer none)=>
  match op with
  | .eql=>guardB (K7 P t) (some (.lit (.bool false)))
  | .neq=>guardB (K7 P t) (some (.lit (.bool true)))
  |_=>none
 |_,_=>none
def setCells:List AV->Nat->List AV->List AV
 |cs,_,[]=>cs
 |cs,i,v::r=>setCells (cs.set i v) (i+1) r
def sA:List PV->Nat->List PV->List PV
 |cs,_,[]=>cs
 |cs,i,v::r=>sA (cs.set i v) (i+1) r
def Cg(y:Nat):Option Int->Nat->Option Nat
 |none,d=>some d
 |some i,_=>guardB (decide (0≤i)&&decide (i≤(y:Int))) (some i.toNat)
def jJ(len:Nat)(lo hi mx:Option Int):Option (Nat×Nat):=
 guardB (mx.isNone||hi.isSome)
  ((Cg len mx len).bind λm=>(Cg m hi len).bind λh=>(Cg h lo 0).bind λl=>some (l,h))
def QE:Option AV->Option (Option Int)
 |none=>some none
 |some (.lit (.int _ n))=>some (some n)
 |some _=>none
def Vt(k:IntKind)(x y:Int):Int:=bif decide (y<x)then y else x
def Vp(k:IntKind)(x y:Int):Int:=bif decide (y>x)then y else x
def oL(f:Int->Int->Int)(k:IntKind):List AV->Int->Option Int
 | [],a=>some a
 | .lit (.int k' b)::r,a=>guardB (jS k k') (oL f k r (f a b))
 |_,_=>none
def bU:Nat:=4294967296
def aP.app(t:TypeId)(x y:aP):Option aP:=
 match x,y with
 | .ints k xs,.ints k' ys=>guardB (jS k k') (some (.ints k (xs++ys)))
 | .pvs β e xs,.pvs β' e' ys=>guardB (Nat.beq e e') (some (.pvs (β||β') e (xs++ys)))
 | .avs e xs,y=>(y.toAvs P t).bind λys=>guardB (lX ys&&Nat.beq e y.e&&Nat.ble 1 e) (some (.avs e (xs++ys)))
 |_,_=>none
def Bt(tx:TypeId)(y:AV):Bool:=
 match P.underlying tx,y with
 |some .string,.lit (.string _)=>true
 |some (.slice _),.lit (.string _)=>false
 |some (.slice _),_=>true
 |_,_=>false
def oF(vars:Bool)(et:TypeId)(v:aP):Option bC:=
 bif vars then guardB (Nat.ble 1 v.len) ((v.toAvs P et).bind λcs=>guardB (lX cs) (some (.cells v.e cs)))else
 match v with
 | .avs _ _=>none
 |v=>some v.row
def j8(boxed vars:Bool)(t tx:TypeId)(mem:aO)(rs:Nat)(x y:AV):Option dY:=
 (elemOf? P t).bind λet=>(k8 P et).bind λs=>(l8 P et).bind λbytes=>(zero? P et).bind λz=>
 (view P et mem y).bind λyv=>
 guardB (Nat.beq s yv.1.e&&Bt P tx y&&Nat.ble bytes 4096&&Nat.ble 1 s&&Nat.beq z.cells.length s)
 (match x with
 | .lit (.slice none 0 0)=>
  guardB (Nat.ble yv.1.len bU) (
  bif boxed then(oF P vars et yv.1).map λrow=>{v:= .msw rs 0,rd:=yv.2,wr:= [(rs,{gen:=0,frz:=false,row})]}
  else yv.1.imm?.map λv=>{v,rd:=yv.2})
 | .msw b g=>(box? mem b g).bind λbx=>(bx.row.all.app P et yv.1).bind λzv=>
  guardB (!bx.frz&&Nat.beq s bx.row.e&&Nat.ble zv.len bU)
   (some {v:= .msw b (g+1),rd:=b::yv.2,wr:= [(b,{gen:=g+1,frz:=false,row:=zv.row})]})
 | .ms b g o n=>(box? mem b g).bind λbx=>(bx.row.sub o n).bind λxv=>(xv.app P et yv.1).bind λzv=>
  guardB (!bx.frz&&Nat.beq s bx.row.e&&Nat.ble zv.len bU&&(Nat.beq o 0||(bx.row.isInts&&Nat.ble 1 zv.len)))
   (some {v:= .msw b (g+1),rd:=b::yv.2,wr:= [(b,{gen:=g+1,frz:=false,row:=zv.row})]})
 |_=>none)
def kG(t:TypeId)(mem:aO)(x:AV)(i:Int):Option dY:=
 match P.underlying t with
 |some (.slice et)=>(k8 P et).bind λs=>
  match x with
  | .imm β (.ints k xs)=>guardB (Nat.beq s 1) ((aF xs i).bind λv=>some {v:= .el β (.lit (.int k v)) 0})
  | .imm β (.sl e xs)=>guardB (Nat.beq s e) ((aF xs i).bind λv=>some {v:= .el β v 0})
  | .ms b g o n=>(box? mem b g).bind λbx=>guardB (Nat.beq s bx.row.e&&decide (0≤i)&&decide (i<(n:Int))) (some {v:= .ptr b g (o+i.toNat) 0,rd:= [b]})
  | .msw b g=>(box? mem b g).bind λbx=>guardB (Nat.beq s bx.row.e&&decide (0≤i)&&decide (i<(bx.row.len:Int))) (some {v:= .ptr b g i.toNat 0,rd:= [b]})
  |_=>none
 |some (.array n e)=>(k8 P e).bind λs=>
  match x with
  | .ptr b g j c=>guardB (decide (0≤i)&&decide (i<(n:Int))) (some {v:= .ptr b g j (c+i.toNat*s)})
  |_=>none
 |_=>none
def lI(t:TypeId)(mem:aO)(a:AV):Option dY:=
 match a with
 | .el β p c=>(QS P β t p c).map λv=>{v}
 | .ptr b g i c=>(box? mem b g).bind λbx=>
  match bx.row with
  | .cells e cs=>
   (isAgg? P t).bind λag=>bif ag then(k8 P t).bind λn=>guardB (Nat.ble (i*e+c+n) cs.length) (some {v:= .agg ((cs.drop (i*e+c)).take n),rd:= [b]})
    else(cs[i*e+c]?).map λv=>{v,rd:= [b]}
  | .ints k xs=>guardB (Nat.beq c 0) (guardB (match isAgg? P t with|some false=>true|_=>false) ((xs[i]?).map λx=>{v:= .lit (.int k x),rd:= [b]}))
  | .pvs β e xs=>(xs[i]?).bind λx=>(QS P β t x c).map λv=>{v,rd:= [b]}
  | .own _ _ _=>none
 |_=>none
def lF(t:TypeId)(mem:aO)(a x:AV):Option dY:=
 match a with
 | .ptr b g i c=>(box? mem b g).bind λbx=>(k8 P t).bind λn=>guardB (!bx.frz&&Nat.beq x.cells.length n)
  (match bx.row with
  | .cells e cs=>guardB (Nat.ble (i*e+c+n) cs.length&&lX x.cells) (some {v:= .lit undef,rd:= [b],wr:= [(b,{bx with row:= .cells e (setCells cs (i*e+c) x.cells)})]})
  | .ints k xs=>
   match x with
   | .lit (.int k' v)=>guardB (jS k k'&&Nat.beq c 0&&Nat.ble (i+1) xs.length) (some {v:= .lit undef,rd:= [b],wr:= [(b,{bx with row:= .ints k (xs.set i v)})]})
   |_=>none
  | .pvs β e xs=>(xs[i]?).bind λp=>(yQ P mem t x).bind λq=>guardB (Nat.ble (c+n) e&&Nat.beq p.cells.length e&&!eY b q.2.2)
    (some {v:= .lit undef,rd:=b::q.2.2,wr:=cM mem q.2.2++ [(b,{bx with row:= .pvs (β||q.1) e (xs.set i (bif Nat.beq n e&&Nat.beq c 0 then q.2.1 else .agg (sA p.cells c q.2.1.cells)))})]})
  | .own _ _ _=>none)
 |_=>none
def iN(t:TypeId)(mem:aO)(x:AV)(lo hi mx:Option Int):Option dY:=
 match P.underlying t with
 |some .string=>
  match x with
  | .lit (.string s)=>guardB mx.isNone ((jJ s.size lo hi none).map λb=>{v:= .lit (.string (s.extract b.1 b.2))})
  |_=>none
 |some (.slice et)=>(k8 P et).bind λs=>
  match x with
  | .imm β (.ints k xs)=>guardB (Nat.beq s 1) ((jJ xs.length lo hi mx).map λb=>{v:= .imm β (.ints k ((xs.take b.2).drop b.1))})
  | .imm β (.sl e xs)=>guardB (Nat.beq s e) ((jJ xs.length lo hi mx).map λb=>{v:= .imm β (.sl e ((xs.take b.2).drop b.1))})
  | .ms b g o n=>(box? mem b g).bind λbx=>guardB (Nat.beq s bx.row.e) ((jJ n lo hi mx).map λq=>{v:= .ms b g (o+q.1) (q.2-q.1),rd:= [b]})
  | .msw b g=>(box? mem b g).bind λbx=>guardB (Nat.beq s bx.row.e) ((jJ bx.row.len lo hi mx).map λq=>{v:= .ms b g q.1 (q.2-q.1),rd:= [b]})
  | .lit (.slice none 0 0)=>(jJ 0 lo hi mx).map λ_=>{v:= .lit (.slice none 0 0)}
  |_=>none
 |some (.array n e)=>(k8 P e).bind λs=>
  match x with
  | .ptr b g 0 c=>guardB (Nat.beq s 1) ((box? mem b g).bind λbx=>
    match bx.row with
    | .cells 1 cs=>guardB (Nat.ble (c+n) cs.length) ((jJ n lo hi mx).map λq=>{v:= .ms b g (c+q.1) (q.2-q.1),rd:= [b]})
    |_=>none)
  |_=>none
 |_=>none
def oJ(s:TypeId)(f:Nat):Option (Nat×Nat×TypeId):=
 match P.underlying s with
 |some (.struct fs)=>(fs[f]?).bind λx=>(k8 P x.type).bind λn=>guardB (Nat.ble 1 n) (some (x.offset,n,x.type))
 |_=>none
def GW(place:Nat->Option (Nat×Nat))(cs:List AV):List (Nat×AV)->Option (List AV)
 | []=>some cs
 |(i,v)::r=>(place i).bind λq=>guardB (Nat.beq v.cells.length q.2&&Nat.ble (q.1+q.2) cs.length) (GW place (setCells cs q.1 v.cells) r)
def places?:List Field->Option (List (Nat×Nat))
 | []=>some []
 |f::r=>(k8 P f.type).bind λn=>(places? r).map ((f.offset,n):: ·)
def FF(t:TypeId)(parts:List (Nat×AV)):Option AV:=
 (zero? P t).bind λz=>
 match P.underlying t with
 |some (.struct fs)=>(places? P fs.toList).bind λps=>(GW (λi=>ps[i]?) z.cells parts).map .agg
 |some (.array _ e)=>(k8 P e).bind λn=>(GW (λi=>some (i*n,n)) z.cells parts).map .agg
 |_=>none
def qN(vs:List AV):List (Nat×AV)->List AV
 | []=>vs
 |(i,v)::r=>qN (vs.set i v) r
def rJ(n:Nat):List (Nat×AV)->Bool
 | []=>true
 |(i,_)::r=>Nat.ble (i+1) n&&rJ n r
def qT(ρ:Operand->Option AV):List Operand->Option (List AV)
 | []=>some []
 |x::r=>(ρ x).bind λv=>(qT ρ r).map (v:: ·)
def m8(ρ:Operand->Option AV):List (Nat×Operand)->Option (List (Nat×AV))
 | []=>some []
 |(i,x)::r=>(ρ x).bind λv=>(m8 ρ r).map ((i,v):: ·)
def CI(ρ:Operand->Option AV):Option Operand->Option (Option Int)
 |none=>some none
 |some x=>(ρ x).bind λv=>QE (some v)
mutual
def AV.refs:AV->List Nat
 | .ptr b _ _ _=> [b]
 | .ms b _ _ _=> [b]
 | .msw b _=> [b]
 | .fn _ fi ca=>AV.refsAll fi++AV.refsAll ca
 | .agg cs=>AV.refsAll cs
 | .tup vs=>AV.refsAll vs
 | .lit _=> []
 | .imm _ _=> []
 | .el _ _ _=> []
def AV.refsAll:List AV->List Nat
 | []=> []
 |v::r=>v.refs++AV.refsAll r
end
def gL:List (Nat×Nat×AV)->List Nat
 | []=> []
 |(_,_,v)::r=>v.refs++gL r
def bC.refs:bC->List Nat
 | .cells _ cs=>AV.refsAll cs
 | .own _ _ hs=>gL hs
 |_=> []
def FH(mem:aO)(b:Nat):List Nat:=
 match mem[b]? with
 |some (some x)=>x.row.refs
 |_=> []
def i9(mem:aO):Nat->List Nat->List Nat->List Nat
 |0,_,seen=>seen
 |_,[],seen=>seen
 |n+1,b::todo,seen=>bif eY b seen then i9 mem n todo seen else i9 mem n (todo++FH mem b) (seen++ [b])
def As(b:Nat):List Nat->Nat->Option Nat
 | [],_=>none
 |m::r,n=>bif Nat.beq m b then some n else As b r (n+1)
def rK(mem:aO)(b:Nat):Option Nat:=
 match mem[b]? with
 |some (some x)=>some x.gen
 |_=>none
abbrev mS:=Nat->Nat->Option (Nat×Nat)
mutual
def AV.ren(f:mS):AV->AV
 | .ptr b g i c=>match f b g with|some q=> .ptr q.1 q.2 i c|none=> .dead
 | .ms b g o n=>match f b g with|some q=> .ms q.1 q.2 o n|none=> .dead
 | .msw b g=>match f b g with|some q=> .msw q.1 q.2|none=> .dead
 | .fn h fi ca=> .fn h (AV.renAll f fi) (AV.renAll f ca)
 | .agg cs=> .agg (AV.renAll f cs)
 | .tup vs=> .tup (AV.renAll f vs)
 | .lit v=> .lit v
 | .imm β p=> .imm β p
 | .el β p c=> .el β p c
def AV.renAll(f:mS):List AV->List AV
 | []=> []
 |v::r=>v.ren f::AV.renAll f r
end
def rP(f:mS):List (Nat×Nat×AV)->List (Nat×Nat×AV)
 | []=> []
 |(i,c,v)::r=>(i,c,v.ren f)::rP f r
def bC.ren(f:mS):bC->bC
 | .own e xs hs=> .own e xs (rP f hs)
 | .cells e cs=> .cells e (AV.renAll f cs)
 | .ints k xs=> .ints k xs
 | .pvs β e xs=> .pvs β e xs
def bC.isCells:bC->Bool
 | .cells _ _=>true
 |_=>false
def iC(m:Nat)(keep cells:Bool)(j g:Nat):Nat:=bif Nat.blt j m&&!cells then(bif keep&&Nat.beq g 0 then 0 else 1)else 0
def nS(mem:aO)(b:Nat):Bool:=
 match mem[b]? with
 |some (some x)=>x.row.isCells
 |_=>false
def gR(m:Nat)(keep:Bool)(mem:aO)(ids:List Nat):mS:=λb g=>
 match rK mem b with
 |some h=>bif Nat.beq h g then(As b ids 0).map λj=>(j,iC m keep (nS mem b) j h)else none
 |none=>none
def e7(m:Nat)(keep:Bool)(f:mS)(mem:aO):Nat->List Nat->aO
 |_,[]=> []
 |j,b::r=>(match mem[b]? with
  |some (some x)=>some {gen:=iC m keep x.row.isCells j x.gen,frz:=x.frz,row:=x.row.ren f}
  |_=>none)::e7 m keep f mem (j+1) r
def Wa:List Nat->List Nat->Bool
 | [],_=>true
 |b::r,ids=>eY b ids&&Wa r ids
def zH:List Nat->List Nat->Bool
 | [],_=>true
 |b::r,ids=>(!eY b ids)&&zH r ids
def eN:List Nat->Bool
 | []=>true
 |b::r=>(!eY b r)&&eN r
def sF:Nat->Nat->List Nat
 |_,0=> []
 |a,n+1=>a::sF (a+1) n
def d8(mem:aO)(n:Nat):Nat:=(mem.length+1)*(mem.length+1)+n
def x9(mem:aO):List (Option Bool):=mem.map λx=>x.map (·.row.isCells)
def q8:List (Option Bool)->aO->Bool
 | [],_=>true
 |some k::r,some x::m=>(bif k then x.row.isCells&&Nat.beq x.gen 0 else !x.row.isCells)&&q8 r m
 |none::r,none::m=>q8 r m
 |_,_=>false
def A5:Nat->Nat->List Nat->Bool
 |_,0,_=>true
 |i,n+1,b::r=>Nat.beq b i&&A5 (i+1) n r
 |_,_+1,[]=>false
def cV:aO->List Nat
 | []=> []
 |some x::r=>x.row.refs++cV r
 |none::r=>cV r
def dC(b:Nat):List Nat->Nat
 | []=>0
 |m::r=>bif Nat.beq m b then dC b r+1 else dC b r
def BU(mem:aO)(v:AV):Option (Nat×PV):=
 match v with
 | .msw b g=>(box? mem b g).bind λx=>bif x.frz then none else match x.row with
  | .ints k xs=>some (b,.ints k xs)
  | .pvs false e xs=>some (b,.sl e xs)
  |_=>none
 | .ms b g 0 n=>(box? mem b g).bind λx=>bif x.frz then none else match x.row with
  | .ints k xs=>guardB (Nat.ble n xs.length) (some (b,.ints k (xs.take n)))
  | .pvs false e xs=>guardB (Nat.ble n xs.length) (some (b,.sl e (xs.take n)))
  |_=>none
 |_=>none
def rO(v:AV):Option Nat:=
 match v with
 | .msw b _=>some b
 | .ms b _ _ _=>some b
 |_=>none
def Tm:PV->PV->Bool
 | .ints k _,.ints k' _=>jS k k'
 | .sl e _,.sl e' _=>Nat.beq e e'
 |_,_=>false
def nP(m:Nat)(refs:List Nat)(mem:aO)(v:AV):Bool:=
 match rO v with
 |some b=>Nat.ble m b&&Nat.beq (dC b refs) 1&&(match mem[b]? with
  |some (some x)=>(match v with| .msw _ g=>Nat.beq x.gen g| .ms _ g _ _=>Nat.beq x.gen g|_=>false)&&!x.frz&&(match x.row with| .ints _ _=>true| .pvs β _ _=>!β|_=>false)
  |_=>false)
 |none=>false
def mV(c:Nat):List (Nat×Nat×AV)->Option (Nat×AV)
 | []=>none
 |(i,c',v)::r=>bif Nat.beq c c' then some (i,v)else mV c r
def dB{α:Type}:List α->Nat->List α
 | [],_=> []
 |_::r,0=>r
 |a::r,n+1=>a::dB r n
def m7(m:Nat)(refs:List Nat)(mem:aO)(all:List (Nat×Nat×AV)):List (Nat×Nat×AV)->Nat->Option Nat
 | [],_=>none
 |(_,c,v)::r,k=>bif nP m refs mem v&&(mV c (dB all k)).isNone then some k else m7 m refs mem all r (k+1)
def kK(m:Nat)(refs:List Nat)(mem:aO):aO->Nat->Option (Nat×Nat)
 | [],_=>none
 |x::r,b=>match x with
  |some {row:= .own _ _ hs,..}=>(match m7 m refs mem hs hs 0 with
   |some k=>some (b,k)
   |none=>kK m refs mem r (b+1))
  |_=>kK m refs mem r (b+1)
def lT(p:PV)(c:Nat)(y:PV):PV:=
 match p with
 | .agg cs=> .agg (cs.set c y)
 |_=>y
def sQ(mem:aO)(b k:Nat):Option aO:=
 match mem[b]? with
 |some (some {gen,frz,row:= .own e xs hs})=>(hs[k]?).bind λh=>(xs[h.1]?).bind λp=>(p.cells[h.2.1]?).bind λy=>(BU mem h.2.2).bind λq=>
   guardB (Tm y q.2&&!(Nat.beq q.1 b)&&(mV h.2.1 (dB hs k)).isNone) (some ((mem.set b (some {gen,frz,row:= .own e (xs.set h.1 (lT p h.2.1 q.2)) (dB hs k)})).set q.1 none))
 |_=>none
def pA(m:Nat)(vs:List AV):Nat->aO->Option aO
 |0,mem=>some mem
 |n+1,mem=>match kK m (AV.refsAll vs++cV mem) mem mem 0 with
  |none=>some mem
  |some q=>(sQ mem q.1 q.2).bind λmem'=>pA m vs n mem'
def QI(mem:aO)(b:Nat):Bool:=
 match mem[b]? with
 |some (some _)=>true
 |_=>false
def wR(m:Nat)(vs:List AV):Nat->aO->aO
 |0,mem=>mem
 |b+1,mem=>wR m vs b (bif Nat.ble m b&&QI mem b&&Nat.beq (dC b (AV.refsAll vs++cV mem)) 0 then mem.set b none else mem)
def GY(m:Nat)(vs:List AV)(mem:aO):Option aO:=pA m vs 64 (wR m vs mem.length mem)
def At(keep:Bool)(old:List (Option Bool))(vs:List AV)(mem0:aO):Option (List AV×aO):=
 (GY old.length vs mem0).bind λmem=>
 let ids:=i9 mem (d8 mem (old.length+(AV.refsAll vs).length)) (sF 0 old.length++AV.refsAll vs) []
 guardB (q8 old mem&&eN ids&&A5 0 old.length ids) (some (AV.renAll (gR old.length keep mem ids) vs,e7 old.length keep (gR old.length keep mem ids) mem 0 ids))
def AV.frz(m:Nat)(mem:aO):AV->AV
 | .msw b g=>bif Nat.ble m b then
   (match box? mem b g with
   |some x=>(match x.row with
    | .ints k xs=> .imm false (.ints k xs)
    | .pvs β e xs=> .imm β (.sl e xs)
    | .cells _ _=> .msw b g
    | .own _ _ _=> .msw b g)
   |none=> .msw b g)
  else .msw b g
 |v=>v
def AV.frzAll(m:Nat)(mem:aO):List AV->List AV
 | []=> []
 |v::r=>v.frz m mem::AV.frzAll m mem r
def oV(m:Nat)(mem:aO):AV->AV
 | .tup vs=> .tup (AV.frzAll m mem vs)
 | .agg vs=> .agg (AV.frzAll m mem vs)
 |v=>v.frz m mem
mutual
def AV.lent:AV->Bool
 | .imm β _=>β
 | .el β _ _=>β
 | .fn _ fi ca=>AV.lentAny fi||AV.lentAny ca
 | .agg cs=>AV.lentAny cs
 | .tup vs=>AV.lentAny vs
 | .lit _=>false
 | .ptr _ _ _ _=>false
 | .ms _ _ _ _=>false
 | .msw _ _=>false
def AV.lentAny:List AV->Bool
 | []=>false
 |v::r=>v.lent||AV.lentAny r
end
def oH:List (Nat×Nat×AV)->Bool
 | []=>false
 |(_,_,v)::r=>v.lent||oH r
def kC:aO->Bool
 | []=>false
 |some x::r=>(match x.row with| .cells _ cs=>AV.lentAny cs| .pvs β _ _=>β| .ints _ _=>false| .own _ _ hs=>oH hs)||kC r
 |none::r=>kC r
def jQ(mem:aO)(l:LK)(v:AV):Option (AV×List Nat):=
 match v with
 | .msw _ _| .ms _ _ _ _=>(lS P mem l v).map λq=>(.imm true q.2.1,q.2.2)
 |v=>some (v,[])
def cG(mem:aO):List LK->List AV->Option (List AV×List Nat)
 | [],[]=>some ([],[])
 |l::ls,v::vs=>(jQ P mem l v).bind λa=>(cG mem ls vs).bind λr=>some (a.1::r.1,a.2++r.2)
 |_,_=>none
def KF:List AV->Bool
 | []=>false
 | .msw _ _::_=>true
 | .ms _ _ _ _::_=>true
 |_::r=>KF r
def lend(mem:aO)(t:TypeId)(v:AV):Option (AV×List Nat):=
 match v with
 | .msw _ _| .ms _ _ _ _=>(leaf? P t).bind λl=>jQ P mem l v
 | .agg cs=>bif KF cs then(leaves? P 8 t).bind λls=>(cG P mem ls cs).map λr=>(.agg r.1,r.2)else some (.agg cs,[])
 |v=>some (v,[])
def iT(mem:aO):List TypeId->List AV->Option (List AV×List Nat)
 | [],[]=>some ([],[])
 |t::ts,v::r=>(lend P mem t v).bind λa=>(iT mem ts r).bind λb=>some (a.1::b.1,a.2++b.2)
 |_,_=>none
def NQ(keep:Bool)(mem:aO)(ts:List TypeId)(vs:List AV):Option (List AV×List Nat):=bif keep then some (vs,[])else iT P mem ts vs
def dF(mem sub:aO)(ids:List Nat):mS:=λb g=>
  (match ids[b]? with
  |some a=>(match sub[b]?,rK mem a with
   |some (some x),some h=>bif Nat.beq x.gen g then some (a,h+x.gen)else none
   |_,_=>none)
  |none=>bif Nat.beq g 0&&Nat.blt b sub.length then some (mem.length+(b-ids.length),0)else none)
def bR(f:mS)(mem:aO):List Nat->aO->List (Nat×bV)
 |a::ids,some x::r=>(a,{gen:=(match rK mem a with|some h=>h+x.gen|none=>0),frz:=x.frz,row:=x.row.ren f})::bR f mem ids r
 |_::ids,none::r=>bR f mem ids r
 |_,_=> []
def fZ(f:mS):aO->aO
 | []=> []
 |some x::r=>some {gen:=0,frz:=x.frz,row:=x.row.ren f}::fZ f r
 |none::r=>none::fZ f r
def iH(m:Nat):List Nat->Bool
 | []=>true
 |b::r=>Nat.blt b m&&iH m r
def BE(C:cC)(raw keep:Bool)(g:FuncId)(ts:List TypeId)(fi args ca:List AV)(mem:aO):Option dY:=
 (NQ P keep mem ts args).bind λla=>
 let all:=fi++la.1++ca
 let ids:=i9 mem (d8 mem (AV.refsAll all).length) (AV.refsAll all) []
 guardB (eN ids&&zH la.2 ids)
 ((C g (AV.renAll (gR 0 true mem ids) all) (e7 0 true (gR 0 true mem ids) mem 0 ids)).bind fun q =>
  let m:=ids.length
  let r:=bif raw then q.1 else oV m q.2 q.1
  guardB (Nat.ble m q.2.length&&(gV la.2||!(q.1.lent||kC q.2)))
  (bif iH m r.refs && iH m (cV (q.2.take m)) then
   some {v:=r.ren (dF mem (q.2.take m) ids),rd:=la.2++ids,wr:=bR (dF mem (q.2.take m) ids) mem ids q.2}
  else
   some {v:=q.1.ren (dF mem q.2 ids),rd:=la.2++ids,wr:=bR (dF mem q.2 ids) mem ids q.2,push:=fZ (dF mem q.2 ids) (q.2.drop m)}))
def FZ(t tx:TypeId)(mem:aO)(rs:Nat)(n:Int):Option dY:=
 match P.underlying tx with
 |some (.int _)=>(elemOf? P t).bind λet=>(zero? P et).bind λz=>
  match intKind? P et with
  |none=>(yQ P mem et z).bind λq=>(k8 P et).bind λe=>(l8 P et).bind λbytes=>
   guardB (decide (1≤n)&&Nat.ble n.toNat bU&&(Nat.ble 1 e&&Nat.ble bytes 4096&&Nat.beq z.cells.length e&&gV q.2.2)) (some {v:= .msw rs 0,wr:= [(rs,{gen:=0,frz:=false,row:= .pvs q.1 e (List.replicate n.toNat q.2.1)})]})
  |some _=>none
 |_=>none
def eZ(boxed vars:Bool)(b:Builtin)(ts:List TypeId)(mem:aO)(rs:Nat)(args:List AV):Option dY:=
 match b,ts,args with
 | .len,[t],[x]=>(lenOf P t mem x).map λn=>{v:= .lit (.int .i64 (n.1:Int)),rd:=n.2}
 | .append,[t,tx],[.lit (.slice none 0 0),.lit (.int _ n)]=>FZ P t tx mem rs n
 | .append,[t,tx],[x,y]=>j8 P boxed vars t tx mem rs x y
 | .cap,[t],[.lit (.slice none 0 0)]=>(match P.underlying t with|some (.slice _)=>some {v:= .lit (.int .i64 0)}|_=>none)
 | .min,_,.lit (.int k a)::r=>(oL (Vt k) k r a).map λv=>{v:= .lit (.int k v)}
 | .max,_,.lit (.int k a)::r=>(oL (Vp k) k r a).map λv=>{v:= .lit (.int k v)}
 |_,_,_=>none
def w9(boxed:Bool)(rs:Nat)(v:aP):Option dY:=
 bif boxed then some {v:= .msw rs 0,wr:= [(rs,{gen:=0,frz:=false,row:=v.row})]}else v.imm?.map λa=>{v:=a}
def n8(boxed:Bool)(src dst:TypeId)(mem:aO)(rs:Nat)(x:AV):Option dY:=
 match P.underlying src,P.underlying dst,x with
 |some (.int _),some (.int k),.lit (.int _ n)=>some {v:= .lit (.int k (k.wrap n))}
 |some .string,some .string,.lit (.string s)=>some {v:= .lit (.string s)}
 |some (.slice e),some .string,x=>
  match P.underlying e with
  |some (.int .u8)=>(view P e mem x).bind λv=>guardB (Bt P src x&&(match k8 P e with|some 1=>true|_=>false))<|
   match v.1 with
   | .ints .u8 xs=>some {v:= .lit (.string (s9 xs)),rd:=v.2}
   |_=>none
  |_=>none
 |some (.slice _),some (.slice e),.msw b g=>
  match P.underlying e with
  |some (.int .u8)=>guardB (Nat.beq src dst) ((box? mem b g).bind λx=>guardB (Nat.ble 1 x.row.len) (some {v:= .msw b g,rd:= [b]}))
  |_=>none
 |_,_,_=>none
def Ku(c a b:AV):Option AV:=
 match c with
 | .lit (.bool t)=>
  match a,b with
  | .lit (.bool x),.lit (.bool y)=>some (.lit (.bool (bif t then x else y)))
  |_,_=>bif t then some a else some b
 |_=>none
def IL(ρ:Operand->Option AV)(c a b:Operand):Option dY:=
 (ρ c).bind λc=>(ρ a).bind λa=>(ρ b).bind λb=>(Ku c a b).map λv=>{v}
def CC(rs:Nat)(t:TypeId):Option dY:=
 (zero? P t).bind λz=>guardB (Nat.ble 1 z.cells.length&&lX z.cells) (some {v:= .ptr rs 0 0 0,wr:= [(rs,{gen:=0,frz:=false,row:= .cells 1 z.cells})]})
def Nd(ρ:Operand->Option AV)(rs:Nat)(t:TypeId)(x:Operand):Option dY:=
 (ρ x).bind λv=>(k8 P t).bind λn=>guardB (Nat.beq v.cells.length n&&Nat.ble 1 n&&lX v.cells) (some {v:= .ptr rs 0 0 0,wr:= [(rs,{gen:=0,frz:=false,row:= .cells 1 v.cells})]})
def Do(ρ:Operand->Option AV)(t:TypeId)(parts:Array (Nat×Operand)):Option dY:=
 (m8 ρ parts.toList).bind λps=>(FF P t ps).map λv=>{v}
def iA(boxed vars:Bool)(ρ:Operand->Option AV)(mem:aO)(rs:Nat)(t:TypeId)(len:Nat)(parts:Array (Nat×Operand)):Option dY:=
 (elemOf? P t).bind λet=>(zero? P et).bind λz=>(k8 P et).bind λs=>(m8 ρ parts.toList).bind λps=>
   guardB (rJ len ps&&Nat.ble len 4096&&Nat.ble 1 s&&Nat.ble s 4096&&pK s (z::ps.map (·.2))) ((p6 P vars mem et (qN (List.replicate len z) ps)).bind λw=>guardB (Nat.beq w.1.e s)<|
    (w9 (boxed || Nat.beq len 0) rs w.1).map fun o => { v := o.v, rd := w.2, wr := cM mem w.2 ++ o.wr })
def AS(ρ:Operand->Option AV)(mem:aO)(t:TypeId)(a x:Operand):Option dY:=
 (ρ a).bind λa=>(ρ x).bind λx=>lF P t mem a x
def OQ(ρ:Operand->Option AV)(x:Operand):Option dY:=
 (ρ x).bind λv=>
  match v with
  | .ptr b g i c=>some {v}
  | .el β p c=>some {v}
  | .fn (.func f) fi ca=>some {v}
  |_=>none
def NJ(ρ:Operand->Option AV)(op:BinOp)(t:TypeId)(x y:Operand):Option dY:=
 (ρ x).bind λx=>(ρ y).bind λy=>(yN P op t x y).map λv=>{v}
def Ux(ρ:Operand->Option AV)(op:UnOp)(x:Operand):Option dY:=
 (ρ x).bind λx=>
  match x with
  | .lit a=>(KJ op a).map λv=>{v:= .lit v}
  |_=>none
def IR(ρ:Operand->Option AV)(fn:Fn)(first cap:Array Operand):Option dY:=
 (qT ρ first.toList).bind λfi=>(qT ρ cap.toList).map λca=>{v:= .fn fn fi ca}
def En(boxed:Bool)(ρ:Operand->Option AV)(mem:aO)(rs:Nat)(t:TypeId)(l c:Operand):Option dY:=
 (elemOf? P t).bind λet=>(zero? P et).bind λz=>(ρ l).bind λl=>(ρ c).bind λc=>
  match l,c with
  | .lit (.int _ n),.lit (.int _ n')=>guardB (n==n'&&decide (0≤n)&&Nat.ble n.toNat bU) (
    match intKind? P et with
    |some k=>(k8 P et).bind λe=>(l8 P et).bind λbytes=>(gP k [z]).bind λzs=>guardB (Nat.beq e 1&&Nat.ble bytes 4096) (w9 boxed rs (.ints k (List.replicate n.toNat (zs.headD 0))))
    |none=>(yQ P mem et z).bind λq=>(k8 P et).bind λe=>(l8 P et).bind λbytes=>
      guardB (Nat.ble 1 e&&Nat.ble bytes 4096&&Nat.beq z.cells.length e&&gV q.2.2) (w9 boxed rs (.pvs q.1 e (List.replicate n.toNat q.2.1))))
  |_,_=>none
def A6(ρ:Operand->Option AV)(mem:aO)(t:TypeId)(x:Operand)(lo hi mx:Option Operand):Option dY:=
 (ρ x).bind λx=>(CI ρ lo).bind λlo=>(CI ρ hi).bind λhi=>(CI ρ mx).bind λmx=>iN P t mem x lo hi mx
def oN(ρ:Operand->Option AV)(s:TypeId)(x:Operand)(f:Nat):Option dY:=
 (ρ x).bind λx=>(oJ P s f).bind λq=>
  match x with
  | .ptr b g i c=>some {v:= .ptr b g i (c+q.1)}
  | .el β p c=>some {v:= .el β p (c+q.1)}
  |_=>none
def C8(ρ:Operand->Option AV)(s:TypeId)(x:Operand)(f:Nat):Option dY:=
 (ρ x).bind λx=>(oJ P s f).bind λq=>
  match x with
  | .agg cs=>(isAgg? P q.2.2).bind λag=>bif ag then guardB (Nat.ble (q.1+q.2.1) cs.length) (some {v:= .agg ((cs.drop q.1).take q.2.1)})else(cs[q.1]?).map λv=>{v}
  |_=>none
def AH(ρ:Operand->Option AV)(mem:aO)(t:TypeId)(x ix:Operand):Option dY:=
 (ρ x).bind λx=>(ρ ix).bind λix=>
  match ix with
  | .lit (.int _ i)=>kG P t mem x i
  |_=>none
def sM(ρ:Operand->Option AV)(t:TypeId)(x ix:Operand):Option dY:=
 (ρ x).bind λx=>(ρ ix).bind λix=>
  match x,ix with
  | .agg cs,.lit (.int _ i)=>
   match P.underlying t with
   |some (.array n e)=>(isAgg? P e).bind λag=>(k8 P e).bind λs=>guardB (!ag&&Nat.beq s 1&&decide (0≤i)&&decide (i<(n:Int))) ((cs[i.toNat]?).map λv=>{v})
   |_=>none
  | .lit (.string s),.lit (.int _ i)=>
   match P.underlying t with
   |some .string=>(aF (c7 s) i).map λn=>{v:= .lit (.int .u8 n)}
   |_=>none
  |_,_=>none
def sY(ρ:Operand->Option AV)(t:Operand)(ix:Nat):Option dY:=
 (ρ t).bind λt=>
  match t with
  | .tup vs=>(vs[ix]?).map λv=>{v}
  |_=>none
def Fp(C:cC)(boxed raw vars:Bool)(ρ:Operand->Option AV)(mem:aO)(rs:Nat)(c:Call):Option dY:=
 (qT ρ c.args.toList).bind λargs=>
  match c.callee with
  | .builtin b=>eZ P boxed vars b c.argTypes.toList mem rs args
  | .value f=>(ρ f).bind λf=>
   match f with
   | .fn (.func g) fi ca=>BE P C raw vars g c.argTypes.toList fi args ca mem
   |_=>none
  | .invoke _ _=>none
def l9:Operand->Bool
 | .const (.slice none 0 0)=>true
 |_=>false
def wY(t:TypeId):Option PV:=
 (elemOf? P t).bind λet=>
 match intKind? P et with
 |some k=>some (.ints k [])
 |none=>(k8 P et).bind λe=>guardB (Nat.ble 1 e) (some (.sl e []))
def MH:PV->Option bC
 | .ints k xs=>some (.ints k xs)
 | .sl e xs=>some (.pvs false e xs)
 |_=>none
def zX(boxed vars:Bool)(ρ:Operand->Option AV)(t:TypeId)(rs:Nat)(x:Operand):Option dY:=
 bif l9 x&&boxed&&!vars then(wY P t).bind λp=>(MH p).map λrow=>{v:= .msw rs 0,wr:= [(rs,{gen:=0,frz:=false,row})]}
 else(ρ x).bind λv=>
  match v with
  | .lit (.slice none 0 0)=>bif boxed then some {v}else(wY P t).map λp=>{v:= .imm false p}
  |v=>some {v}
def Ra(C:cC)(boxed raw vars:Bool)(o:Oper)(ρ:Operand->Option AV)(mem:aO)(rs:Nat):Option dY:=
 match o.op with
 | .move x=>zX P boxed vars ρ o.type rs x
 | .assign x=>zX P boxed vars ρ o.type rs x
 | .pick c a b=>IL ρ c a b
 | .alloc t=>CC P rs t
 | .box t x=>Nd P ρ rs t x
 | .build t parts=>Do P ρ t parts
 | .buildSlice t len parts=>iA P boxed vars ρ mem rs t len parts
 | .load t a=>(ρ a).bind λa=>lI P t mem a
 | .store t a x=>AS P ρ mem t a x
 | .nilCheck x=>OQ ρ x
 | .binOp op t x y _=>NJ P ρ op t x y
 | .unOp op _ x=>Ux ρ op x
 | .convert src dst x=>(ρ x).bind λx=>n8 P boxed src dst mem rs x
 | .makeFunc fn first cap=>IR ρ fn first cap
 | .makeSlice t l c=>En P boxed ρ mem rs t l c
 | .slice t x lo hi mx=>A6 P ρ mem t x lo hi mx
 | .fieldAddr s x f=>oN P ρ s x f
 | .field s x f=>C8 P ρ s x f
 | .indexAddr t x ix=>AH P ρ mem t x ix
 | .index t x ix=>sM P ρ t x ix
 | .extract t ix=>sY ρ t ix
 | .call c=>Fp P C boxed raw vars ρ mem rs c
 |_=>none
def yU(mem:aO)(b:Nat):Bool:=
 match mem[b]? with
 |some (some x)=>x.row.isOwn
 |_=>false
def BZ(mem:aO):AV->Bool
 | .msw b _=>yU mem b
 | .ms b _ _ _=>yU mem b
 |_=>false
def L0(mem:aO):AV->Bool
 | .msw b _=>yU mem b
 |_=>false
def LI(mem:aO):AV->Bool
 | .ptr b _ _ _=>yU mem b
 |_=>false
def Eh(c:Nat):List (Nat×Nat×AV)->List (Nat×Nat×AV)
 | []=> []
 |(i,c',v)::r=>bif Nat.beq c c' then r else(i,c',v)::Eh c r
def dG:PV->Option bC
 | .ints k ys=>some (.ints k ys)
 | .sl e ys=>guardB (Nat.ble 1 e) (some (.pvs false e ys))
 |_=>none
def qZ(tk:Bool)(xs:List PV)(i c:Nat)(l:LK)(hs:List (Nat×Nat×AV))(nb:Nat):Option (AV×List (Nat×Nat×AV)×List bC):=
 (xs[i]?).bind λp=>(p.cells[c]?).bind λy=>
 match mV c hs with
 |some h=>guardB (Nat.beq i h.1) (some (h.2,hs,[]))
 |none=>bif B9 l then(iO true l y).map λv=>(v,hs,[])
  else guardB tk ((dG y).map λrow=>(.msw nb 0,(i,c,.msw nb 0)::hs,[row]))
def rX(tk:Bool)(xs:List PV)(i:Nat):List LK->Nat->List (Nat×Nat×AV)->Nat->Option (List AV×List (Nat×Nat×AV)×List bC)
 | [],_,hs,_=>some ([],hs,[])
 |l::ls,c,hs,nb=>(qZ tk xs i c l hs nb).bind λa=>(rX tk xs i ls (c+1) a.2.1 (nb+a.2.2.length)).map λq=>(a.1::q.1,q.2.1,a.2.2++q.2.2)
def fU:List bC->aO
 | []=> []
 |r::rs=>some {gen:=0,frz:=false,row:=r}::fU rs
def Dj(b e:Nat)(bx:bV)(xs:List PV)(v:AV)(q:List (Nat×Nat×AV)×List bC):dY:=
 match q.2 with
 | []=>{v,rd:= [b]}
 |rows=>{v,rd:= [b],wr:= [(b,{bx with row:= .own e xs q.1})],push:=fU rows}
def Eb(tk:Bool)(t:TypeId)(mem:aO)(a:AV):Option dY:=
 match a with
 | .ptr b g i c=>(boxO? mem b g).bind λbx=>
  match bx.row with
  | .own e xs hs=>
   match isAgg? P t with
   |some false=>(leaf? P t).bind λl=>(qZ tk xs i c l hs mem.length).map λq=>Dj b e bx xs q.1 q.2
   |some true=>(leaves? P 8 t).bind λls=>(k8 P t).bind λn=>guardB (Nat.beq n ls.length) ((rX tk xs i ls c hs mem.length).map λq=>Dj b e bx xs (.agg q.1) q.2)
   |none=>none
  |_=>none
 |_=>none
def HE:Value->Value->Bool
 | .int k _,.int k' _=>jS k k'
 | .bool _,.bool _=>true
 | .string _,.string _=>true
 |_,_=>false
def Du:PV->Option PV
 | .ints k _=>some (.ints k [])
 | .sl e _=>guardB (Nat.ble 1 e) (some (.sl e []))
 |_=>none
def GJ(i c:Nat)(hs:List (Nat×Nat×AV)):Option (List (Nat×Nat×AV)):=
 match mV c hs with
 |none=>some hs
 |some h=>guardB (Nat.beq i h.1&&(mV c (Eh c hs)).isNone) (some (Eh c hs))
def oR(t:TypeId)(mem:aO)(a x:AV):Option dY:=
 match a with
 | .ptr b g i c=>(boxO? mem b g).bind λbx=>
  match bx.row with
  | .own e xs hs=>(k8 P t).bind λn=>guardB (Nat.beq n 1&&!bx.frz&&Mz x) ((xs[i]?).bind λp=>(p.cells[c]?).bind λy=>
   match y,x with
   | .lit u,.lit v=>guardB (HE u v&&(mV c hs).isNone) (some {v:= .lit undef,rd:= [b],wr:= [(b,{bx with row:= .own e (xs.set i (lT p c (.lit v))) hs})]})
   | .lit _,_=>none
   |y,.lit (.slice none 0 0)=>(Du y).bind λy'=>(GJ i c hs).map λhs'=>{v:= .lit undef,rd:= [b],wr:= [(b,{bx with row:= .own e (xs.set i (lT p c y')) hs'})]}
   |y,.lit _=>none
   |y,x=>(GJ i c hs).map λhs'=>{v:= .lit undef,rd:= [b],wr:= [(b,{bx with row:= .own e xs ((i,c,x)::hs')})]})
  |_=>none
 |_=>none
def Ox(t:TypeId)(mem:aO)(x:AV):Option dY:=
 match P.underlying t,x with
 |some (.slice _),.msw b g=>(boxO? mem b g).map λbx=>{v:= .lit (.int .i64 (bx.row.len:Int)),rd:= [b]}
 |_,_=>none
def vL(t:TypeId)(mem:aO)(x:AV)(i:Int):Option dY:=
 match P.underlying t with
 |some (.slice et)=>(k8 P et).bind λs=>
  match x with
  | .ms b g o n=>(boxO? mem b g).bind λbx=>guardB (Nat.beq s bx.row.e&&decide (0≤i)&&decide (i<(n:Int))) (some {v:= .ptr b g (o+i.toNat) 0,rd:= [b]})
  | .msw b g=>(boxO? mem b g).bind λbx=>guardB (Nat.beq s bx.row.e&&decide (0≤i)&&decide (i<(bx.row.len:Int))) (some {v:= .ptr b g i.toNat 0,rd:= [b]})
  |_=>none
 |_=>none
def vK(t:TypeId)(mem:aO)(x:AV)(lo hi mx:Option Int):Option dY:=
 match P.underlying t with
 |some (.slice et)=>(k8 P et).bind λs=>
  match x with
  | .ms b g o n=>(boxO? mem b g).bind λbx=>guardB (Nat.beq s bx.row.e) ((jJ n lo hi mx).map λq=>{v:= .ms b g (o+q.1) (q.2-q.1),rd:= [b]})
  | .msw b g=>(boxO? mem b g).bind λbx=>guardB (Nat.beq s bx.row.e) ((jJ bx.row.len lo hi mx).map λq=>{v:= .ms b g q.1 (q.2-q.1),rd:= [b]})
  |_=>none
 |_=>none
def CK(l:LK)(v:AV)(j c:Nat):Option (PV×List (Nat×Nat×AV)):=
 match l,v with
 | .int k,.lit (.int k' x)=>guardB (jS k k') (some (.lit (.int k' x),[]))
 | .bool,.lit (.bool b)=>some (.lit (.bool b),[])
 | .str,.lit (.string s)=>some (.lit (.string s),[])
 | .ints k,.lit (.slice none 0 0)=>some (.ints k [],[])
 | .sl _ e,.lit (.slice none 0 0)=>guardB (Nat.ble 1 e) (some (.sl e [],[]))
 | .ints k,.msw b g=>some (.ints k [],[(j,c,.msw b g)])
 | .ints k,.ms b g o n=>some (.ints k [],[(j,c,.ms b g o n)])
 | .sl _ e,.msw b g=>guardB (Nat.ble 1 e) (some (.sl e [],[(j,c,.msw b g)]))
 | .sl _ e,.ms b g o n=>guardB (Nat.ble 1 e) (some (.sl e [],[(j,c,.ms b g o n)]))
 |_,_=>none
def Rv:List LK->List AV->Nat->Nat->Option (List PV×List (Nat×Nat×AV))
 | [],[],_,_=>some ([],[])
 |l::ls,v::vs,j,c=>(CK l v j c).bind λa=>(Rv ls vs j (c+1)).map λq=>(a.1::q.1,a.2++q.2)
 |_,_,_,_=>none
def GZ(t:TypeId)(ls:List LK):List (List AV)->Nat->Option (List PV×List (Nat×Nat×AV))
 | [],_=>some ([],[])
 |cs::r,j=>(Rv ls cs j 0).bind λa=>(zU P t a.1).bind λp=>(GZ t ls r (j+1)).map λq=>(p::q.1,a.2++q.2)
def nV(n:Nat):List (Nat×Nat×AV)->Bool
 | []=>true
 |(i,_,_)::r=>Nat.blt i n&&nV n r
def pF(own:Bool)(t tx:TypeId)(mem:aO)(rs:Nat)(x y:AV):Option dY:=
 (elemOf? P t).bind λet=>(k8 P et).bind λs=>(l8 P et).bind λbytes=>(zero? P et).bind λz=>(leaves? P 8 et).bind λls=>
 (view P et mem y).bind λyv=>
 match yv.1 with
 | .avs e cs=>guardB (Nat.beq s e&&Bt P tx y&&Nat.ble bytes 4096&&Nat.ble 1 s&&Nat.beq z.cells.length s&&Nat.beq ls.length s&&lX cs)
  (match x with
  | .lit (.slice none 0 0)=>guardB own ((GZ P et ls (chunks s (aY s cs.length) cs) 0).bind λq=>guardB (Nat.ble 1 q.1.length&&Nat.ble q.1.length bU)
    (some { v := .msw rs 0, rd := yv.2, wr := [(rs, { gen := 0, frz := false, row := .own s q.1 q.2 })] }))
  | .msw b g=>(boxO? mem b g).bind λbx=>match bx.row with
   | .own e' xs hs=>(GZ P et ls (chunks s (aY s cs.length) cs) xs.length).bind λq=>guardB (!bx.frz&&Nat.beq s e'&&nV xs.length hs&&Nat.ble (xs++q.1).length bU)
     (some {v:= .msw b (g+1),rd:=b::yv.2,wr:= [(b,{gen:=g+1,frz:=false,row:= .own e' (xs++q.1) (hs++q.2)})]})
   |_=>none
  | .ms b g 0 n=>(boxO? mem b g).bind λbx=>match bx.row with
   | .own e' xs hs=>(GZ P et ls (chunks s (aY s cs.length) cs) n).bind λq=>guardB (!bx.frz&&Nat.beq s e'&&Nat.ble n xs.length&&nV n hs&&Nat.ble (xs.take n++q.1).length bU)
     (some {v:= .msw b (g+1),rd:=b::yv.2,wr:= [(b,{gen:=g+1,frz:=false,row:= .own e' (xs.take n++q.1) (hs++q.2)})]})
   |_=>none
  |_=>none)
 |_=>none
def Kh(ρ:Operand->Option AV)(mem:aO)(rs:Nat)(t:TypeId)(l c:Operand):Option dY:=
 (elemOf? P t).bind λet=>(zero? P et).bind λz=>(ρ l).bind λl=>(ρ c).bind λc=>(leaves? P 8 et).bind λls=>
  match l,c with
  | .lit (.int _ n),.lit (.int _ n')=>guardB (n==n'&&decide (0≤n)&&Nat.ble n.toNat bU) (
    (Rv ls z.cells 0 0).bind λa=>(zU P et a.1).bind λp=>(k8 P et).bind λe=>(l8 P et).bind λbytes=>
      guardB (Nat.ble 1 e&&Nat.ble bytes 4096&&Nat.beq z.cells.length e&&lX z.cells&&(match a.2 with| []=>true|_=>false)) (some {v:= .msw rs 0,wr:= [(rs,{gen:=0,frz:=false,row:= .own e (List.replicate n.toNat p) []})]}))
  |_,_=>none
def FB(ρ:Operand->Option AV)(mem:aO)(rs:Nat)(t:TypeId)(len:Nat)(parts:Array (Nat×Operand)):Option dY:=
 (elemOf? P t).bind λet=>(zero? P et).bind λz=>(k8 P et).bind λs=>(m8 ρ parts.toList).bind λps=>(leaves? P 8 et).bind λls=>
   guardB (rJ len ps&&Nat.ble len 4096&&Nat.ble 1 s&&Nat.ble s 4096&&pK s (z::ps.map (·.2))&&Nat.beq ls.length s&&Nat.ble 1 len) ((GZ P et ls ((qN (List.replicate len z) ps).map (·.cells)) 0).bind λq=>
    guardB (lX (jD (qN (List.replicate len z) ps))) (some {v:= .msw rs 0,wr:= [(rs,{gen:=0,frz:=false,row:= .own s q.1 q.2})]}))
def KH(t:TypeId)(rs:Nat):Option dY:=
 (elemOf? P t).bind λet=>(k8 P et).bind λe=>guardB (Nat.ble 1 e) (some {v:= .msw rs 0,wr:= [(rs,{gen:=0,frz:=false,row:= .own e [] []})]})
def oI(own:Bool)(b:Builtin)(ts:List TypeId)(mem:aO)(rs:Nat)(args:List AV):Option dY:=
 match b,ts,args with
 | .len,[t],[x]=>Ox P t mem x
 | .append,[t,tx],[x,y]=>pF P own t tx mem rs x y
 |_,_,_=>none
def oY(ρ:Operand->Option AV)(p:AV->Bool)(x:Operand):Bool:=
 match ρ x with
 |some v=>p v
 |none=>false
def b7(own:Bool)(ρ:Operand->Option AV)(mem:aO):Op->Bool
 | .move x=>own&&l9 x
 | .assign x=>own&&l9 x
 | .buildSlice _ _ _=>own
 | .makeSlice _ _ _=>own
 | .load _ a=>oY ρ (LI mem) a
 | .store _ a _=>oY ρ (LI mem) a
 | .slice _ x _ _ _=>oY ρ (BZ mem) x
 | .indexAddr _ x _=>oY ρ (BZ mem) x
 | .call c=>(match c.callee,c.args.toList with
  | .builtin .len,[x]=>oY ρ (L0 mem) x
  | .builtin .append,[x,_]=>own||oY ρ (BZ mem) x
  |_,_=>false)
 |_=>false
def J1(own tk:Bool)(o:Oper)(ρ:Operand->Option AV)(mem:aO)(rs:Nat):Option dY:=
 match o.op with
 | .move _=>KH P o.type rs
 | .assign _=>KH P o.type rs
 | .buildSlice t len parts=>FB P ρ mem rs t len parts
 | .makeSlice t l c=>Kh P ρ mem rs t l c
 | .load t a=>(ρ a).bind λa=>Eb P tk t mem a
 | .store t a x=>(ρ a).bind λa=>(ρ x).bind λx=>oR P t mem a x
 | .slice t x lo hi mx=>(ρ x).bind λx=>(CI ρ lo).bind λlo=>(CI ρ hi).bind λhi=>(CI ρ mx).bind λmx=>vK P t mem x lo hi mx
 | .indexAddr t x ix=>(ρ x).bind λx=>(ρ ix).bind λix=>
  match ix with
  | .lit (.int _ i)=>vL P t mem x i
  |_=>none
 | .call c=>(qT ρ c.args.toList).bind λargs=>
  match c.callee with
  | .builtin b=>oI P own b c.argTypes.toList mem rs args
  |_=>none
 |_=>none
def Kf(C:cC)(own tk boxed raw vars:Bool)(o:Oper)(ρ:Operand->Option AV)(mem:aO)(rs:Nat):Option dY:=
 bif b7 own ρ mem o.op then J1 P own tk o ρ mem rs else Ra P C boxed raw vars o ρ mem rs
structure Tr where
 i:Nat
 rd:List Nat
 wr:List Nat
 push:Bool
 rc:Bool
 wk:Nat->Bool
def q6:AV->Option (Nat×Nat×Nat×Nat)
 | .ptr b g i c=>some (b,g,i,c)
 |_=>none
def jY(x:bV):Option (Nat×Nat×List (Option (Nat×Nat×Nat×Nat))):=
 match x.row with
 | .cells e cs=>some (x.gen,e,cs.map q6)
 |_=>none
def bF(mem:aO)(b:Nat):Option (Nat×Nat×List (Option (Nat×Nat×Nat×Nat))):=
 match mem[b]? with
 |some (some x)=>jY x
 |_=>none
def Xf(x y:Option (Nat×Nat×Nat×Nat)):Bool:=
 match x,y with
 |none,none=>true
 |some (a,b,c,d),some (a',b',c',d')=>Nat.beq a a'&&Nat.beq b b'&&Nat.beq c c'&&Nat.beq d d'
 |_,_=>false
def Vy:List (Option (Nat×Nat×Nat×Nat))->List (Option (Nat×Nat×Nat×Nat))->Bool
 | [],[]=>true
 |x::xs,y::ys=>Xf x y&&Vy xs ys
 |_,_=>false
def LY(x y:Option (Nat×Nat×List (Option (Nat×Nat×Nat×Nat)))):Bool:=
 match x,y with
 |some (g,e,l),some (g',e',l')=>Nat.beq g g'&&Nat.beq e e'&&Vy l l'
 |_,_=>false
def s8(mem:aO)(wr:List (Nat×bV))(b:Nat):Bool:=wr.all λq=>!(Nat.beq q.1 b)||LY (jY q.2) (bF mem b)
def Ph:Op->Bool
 | .load _ _=>true
 |_=>false
def Rz(op:Op)(mem:aO)(v:AV)(rd:List Nat):Bool:=
 Ph op&&(match q6 v with|some _=>true|none=>false)&&(match rd with| [b]=>(match bF mem b with|some _=>true|none=>false)|_=>false)
def P8(L:Nat)(all:List Tr)(b:Nat):Bool:=Nat.blt b L&&all.all λu=>!(eY b u.wr)||u.wk b
def J0(L:Nat)(all:List Tr)(t:Tr):Tr:=bif t.rc&&(match t.rd with| [b]=>P8 L all b|_=>false)then{t with rd:= []}else t
variable [cS]
def He(tmps:List AV)(t:Nat):Option AV:=(fD tmps t).bind λv=>bif iP v then none else some v
def cN(tmps:List AV):Operand->Option AV
 | .tmp t=>He tmps t
 | .const v=>BM v
 | .func f=>some (.fn (.func f) [] [])
 | .global g=>(cS.tab g).map λq=> .el true (.agg [.lit (.int .i64 q.1),.lit (.int .i64 q.2)]) 0
def pO(tmps:List AV)(dst:Option Tmp)(v:AV):List AV:=
 match dst with
 |some d=>wM v tmps d
 |none=>tmps
def eR:Op->Bool
 | .move x| .assign x=>l9 x
 | .alloc _| .box _ _| .buildSlice _ _ _| .convert _ _ _| .makeSlice _ _ _=>true
 | .call {callee:= .builtin .append,..}=>true
 |_=>false
def rV:List Oper->Nat
 | []=>0
 |o::r=>(bif eR o.op then 1 else 0)+rV r
def Bw(mem:aO)(rs:Nat):Bool:=
 match mem[rs]? with
 |some none=>true
 |_=>false
def Q1:Option bV->Bool
 |none=>true
 |some _=>false
def trim:aO->aO
 | []=> []
 |x::r=>match trim r with
  | []=>bif Q1 x then []else [x]
  |y=>x::y
def dY.tr(mk:Bool)(rs:Nat)(o:dY)(i:Nat)(op:Op)(mem:aO):Tr:={i,rc:=Rz op mem o.v o.rd,wk:=s8 mem o.wr,rd:=o.rd,wr:=bif mk then rs::o.wr.map (·.1)else o.wr.map (·.1),push:=match o.push with| []=>false|_=>true}
variable {R:Type}
def Fh(a b:Nat):List (Nat×Nat×Int)->Option Int
 | []=>none
 |(m,x,v)::r=>bif Nat.beq m a&&Nat.beq x b then some v else Fh a b r
def Cw(h:Option Int)(v:AV)(k:AV->Option R):Option R:=
 match h with
 |none=>k v
 |some x=>match v with
  | .lit (.int kd y)=>guardB (decide (y=x)) (k (.lit (.int kd x)))
  | .lit (.bool b)=>bif decide (x=0)then guardB (!b) (k (.lit (.bool false)))else guardB b (k (.lit (.bool true)))
  |v=>k v
def yM(C:cC)(an:o5)(tk:Bool)(rid:Nat)(ds:List (Option Tmp)):List Oper->Nat->Nat->St->List Tr->(St->List Tr->Option R)->Option R
 | [],_,_,st,tr,k=>k st tr
 |o::rest,i,rs,st,tr,k=>
  let rs':=bif eR o.op then rs+1 else rs
  let run (st:St):Option R:=guardB (bif eR o.op then Bw st.mem rs else true) ((Kf P C (bP rid i an.own) tk (bP rid i an.boxed) (bP rid i an.raw) (bP rid i an.vars) o (cN st.tmps) st.mem rs).bind λout=>
   Cw (Fh rid i an.hint) out.v λv=>yM C an tk rid ds rest (i+1) rs' {tmps:=pO st.tmps o.dst v,mem:=out.apply st.mem} (out.tr (eR o.op) rs i o.op st.mem::tr) k)
  let skip (st:St):Option R:=yM C an tk rid ds rest (i+1) rs' {tmps:=pO st.tmps o.dst (.lit undef),mem:=st.mem} tr k
  match o.guard with
  |none=>run st
  |some (j,want)=>
   match ds[j]? with
   |some (some d)=>
    match fD st.tmps d with
    |some (.lit (.bool b))=>
     bif b then(bif want then run else skip) {st with tmps:=wM (.lit (.bool true)) st.tmps d}
     else(bif want then skip else run) {st with tmps:=wM (.lit (.bool false)) st.tmps d}
    |some (.lit (.tuple _))=>skip st
    |_=>none
   |_=>none
def FA(acc:List Nat):List Edge->Nat
 | []=>0
 |e::r=>bif Region.binds .any e then 2 ^ e.on ||| acc.getD e.on 0 ||| FA acc r else FA acc r
def zZ:List Oper->List Nat->List Nat
 | [],acc=>acc
 |o::r,acc=>zZ r (acc++ [FA acc o.after.toList])
def Dg(i:Nat):List Edge->Bool
 | []=>true
 |e::r=>(!(Region.binds .any e)||Nat.blt e.on i)&&Dg i r
def lK:List Oper->Nat->Bool
 | [],_=>true
 |o::r,i=>Dg i o.after.toList&&lK r (i+1)
def dN(bs:List Nat)(i j:Nat):Bool:=(bs.getD j 0).testBit i||(bs.getD i 0).testBit j
def Ds(ops:Array Oper)(i j:Nat):Bool:=
 match ops[i]?,ops[j]? with
 |some x,some y=>x.apart ops y
 |_,_=>false
def U7(bs:List Nat)(L:Nat)(a:Tr):List Tr->Bool
 | []=>true
 |b::r=>(dN bs a.i b.i||(!(a.push&&b.push)&&zH a.wr b.rd&&zH a.rd b.wr&&zH a.wr b.wr&&(!a.push||(iH L b.rd&&iH L b.wr))&&(!b.push||(iH L a.rd&&iH L a.wr))))&&U7 bs L a r
def Rp(bs:List Nat)(L:Nat):List Tr->Bool
 | []=>true
 |a::r=>U7 bs L a r&&Rp bs L r
def oB(o:Oper):Bool:=
 match o.op with
 | .call c=>(match c.callee with| .builtin _=>false|_=>true)
 |_=>false
def AU(bs:List Nat)(i:Nat):List Oper->Nat->Bool
 | [],_=>true
 |o::r,j=>(Nat.beq i j||dN bs i j||!(oB o))&&AU bs i r (j+1)
def LD(ops:Array Oper)(bs:List Nat):List Tr->Bool
 | []=>true
 |a::r=>(!a.push||AU bs a.i ops.toList 0)&&LD ops bs r
def CS(ops:Array Oper)(bs:List Nat)(i:Nat):List Nat->Bool
 | []=>true
 |j::r=>(dN bs i j||Ds ops i j)&&CS ops bs i r
def Di(ops:Array Oper)(bs:List Nat):List Nat->Bool
 | []=>true
 |i::r=>CS ops bs i r&&Di ops bs r
def Lt(ops:Array Oper)(L:Nat)(tr:List Tr):Bool:=
 let bs:=zZ ops.toList []
 lK ops.toList 0&&Rp bs L (tr.map (J0 L tr))&&LD ops bs tr&&Di ops bs (sF 0 ops.size)
def kS(C:cC)(an:o5)(rid:Nat)(ops:Array Oper)(draw:Bool)(st:St)(k:St->Option R):Option R:=
 yM P C an (!draw) rid (ops.toList.map (·.dst)) ops.toList 0 st.mem.length {st with mem:=st.mem++List.replicate (rV ops.toList) none} [] λst' tr=>
  guardB (!draw||Lt ops (st.mem.length+rV ops.toList) tr) (k {st' with mem:=trim st'.mem})
inductive Ex where
 |normal|exit (id:Nat)|ret|goto (l:Nat)
def b6(live:List Nat):List AV->Nat->List AV
 | [],_=> []
 |v::r,i=>(bif eY i live then v else .goneV)::b6 live r (i+1)
def NG(keep:Bool)(old:List (Option Bool))(live:List Nat)(st:St):Option St:=
 (At keep old (b6 live st.tmps 0) st.mem).map λq=>{tmps:=q.1,mem:=q.2}
def mF(keep:Bool)(old:List (Option Bool))(live:List Nat)(body:St->(Ex->St->Option R)->Option R):Nat->St->(Ex->St->Option R)->Option R
 |0,_,_=>none
 |n+1,st,k=>(NG keep old live st).bind λst1=>body st1 λe st'=>
  match e with
  | .normal=>mF keep old live body n st' k
  | .exit id=>k (.exit id) st'
  | .ret=>k .ret st'
  | .goto l=>k (.goto l) st'
def TN(mem:aO)(off:Nat):AV->Option AV
 | .ptr b g i c=>(box? mem b g).bind λx=>match x.row with
  | .cells e cs=>cs[i*e+c+off]?
  |_=>none
 |v=>some v
def HX(mem:aO)(s:AV)(n c:Nat):Option aO:=
 match s with
 | .msw b g=>(boxO? mem b g).bind λbx=>match bx.row with
  | .own e xs hs=>(qZ true xs n c (.sl 0 0) hs mem.length).map λr=>mem.set b (some {bx with row:= .own e xs r.2.1})++fU r.2.2
  |_=>none
 |_=>none
def Eu(mem:aO)(off:Nat):AV->Option aO
 | .ptr b g i c=>(box? mem b g).bind λx=>match x.row with
  | .cells e cs=>(match cs[i*e+c+off]? with
   |some (.msw b1 g1)=>(box? mem b1 g1).map λy=>mem.set b (some {gen:=x.gen,frz:=x.frz,row:= .cells e (cs.set (i*e+c+off) (.ms b1 g1 0 y.row.len))})
   |_=>some mem)
  |_=>none
 |_=>none
def Ot(tmps:List AV)(mem:aO)(q:Operand×Nat×Operand×Nat):Option aO:=
 (cN tmps q.1).bind λp=>bif Nat.beq q.2.2.2 999 then Eu mem q.2.1 p else(TN mem q.2.1 p).bind λs=>(cN tmps q.2.2.1).bind λv=>
  match v with
  | .lit (.int _ n)=>guardB (decide (0≤n)) (HX mem s n.toNat q.2.2.2)
  |_=>none
def Fq(tmps:List AV):List (Operand×Nat×Operand×Nat)->aO->Option aO
 | [],mem=>some mem
 |q::r,mem=>(Ot tmps mem q).bind λmem'=>Fq tmps r mem'
def Bl(an:o5)(rid:Nat)(old:List (Option Bool))(st:St):Option St:=
 match dS rid an.tidy with
 |none=>some st
 |some q=>(GY old.length (b6 q.1 st.tmps 0) st.mem).bind λmem=>(Fq (b6 q.1 st.tmps 0) q.2 mem).map λmem'=>{tmps:=b6 q.1 st.tmps 0,mem:=mem'}
def cF(l:Nat):Nat:=500+l
def N6(l:Nat)(k:Ex->St->Option R):Ex->St->Option R:=λe st'=>
 match e with
 | .goto l'=>bif Nat.beq l' l then k .normal st' else none
 | .exit j=>k (.exit j) st'
 | .ret=>k .ret st'
 | .normal=>none
def cX(C:cC)(an:o5)(n:Nat)(old:List (Option Bool)):Code->Nat->St->(Ex->St->Option R)->Option R
 | .skip,_,st,k=>k .normal st
 | .ret,_,st,k=>k .ret st
 | .exit id,_,st,k=>k (.exit id) st
 | .seq a b,bid,st,k=>cX C an n old a bid st λe st'=>
  match e with
  | .normal=>cX C an n old b bid st' k
  | .exit id=>k (.exit id) st'
  | .ret=>k .ret st'
  | .goto l=>k (.goto l) st'
 | .cond c x y,bid,st,k=>
  match cN st.tmps c with
  |some (.lit (.bool t))=>bif t then cX C an n old x bid st k else cX C an n old y bid st k
  |some (.imm true (.lit (.bool false)))=>amb (cX C an n old x bid st k) (cX C an n old y bid st k)
  |_=>none
 | .block id c,_,st,k=>cX C an n old c id st λe st'=>
  match e with
  | .normal=>k .normal st'
  | .exit j=>bif Nat.beq j id then k .normal st' else k (.exit j) st'
  | .ret=>k .ret st'
  | .goto l=>k (.goto l) st'
 | .loop c,bid,st,k=>(dS bid an.live).bind λlive=>mF (eY bid an.keep) old live (λst k=>cX C an n old c bid st k) n st k
 | .region rid ops draw,_,st,k=>(Bl an rid old st).bind λst=>kS P C an rid ops draw st (λst'=>k .normal st')
 | .goto l,_,st,k=>k (.goto l) st
 | .scope (.seq (.region r1 o1 d1) (.seq (.region r2 o2 d2) (.seq (.label l) b))),_,st,k=>
  (Bl an r1 old st).bind λst=>kS P C an r1 o1 d1 st λst=>
  (Bl an r2 old st).bind λst=>kS P C an r2 o2 d2 st λst=>
  (dS (cF l) an.live).bind λlive=>mF (eY (cF l) an.keep) old live (λst k=>cX C an n old b (cF l) st (N6 l k)) n st k
 |_,_,_,_=>none
def Hh(tmps:List AV)(mem:aO):List ResultVar->Option (List AV)
 | []=>some []
 | .tmp t::r=>(He tmps t).bind λv=>(Hh tmps mem r).map (v:: ·)
 | .cell a t::r=>(He tmps a).bind λa=>(lI P t mem a).bind λo=>(Hh tmps mem r).map (o.v:: ·)
def Am:List AV->AV
 | [v]=>v
 |vs=> .tup vs
def HK(fn:Func)(old:List (Option Bool))(e:Ex)(st:St):Option (AV×aO):=
 match e with
 | .exit _=>none
 | .goto _=>none
 |_=>(Hh P st.tmps st.mem fn.results.toList).bind λvs=>(At true old [Am vs] st.mem).bind λq=>
  match q.1 with
  | [v]=>some (v,q.2)
  |_=>none
end
end
end Go.Ab
end
section
namespace Go.Ab
abbrev cl(w:World)(B o:Nat):Option Value:=w.cell? ⟨B,o,none⟩
inductive PR (w:World) (pr:Nat->Nat->Prop):PV->Value->Prop
 |lit (v:Value) (h:v.oneCell'=true):PR w pr (.lit v) v
 |intsNil (k:IntKind) (a:Option Addr):PR w pr (.ints k []) (.slice a 0 0)
 |ints (k:IntKind) (xs:List Int) (B o cap:Nat) (hcap:xs.length≤cap)
   (h: ∀i x,xs[i]?=some x->cl w B (o+i)=some (.int k x)/\pr B (o+i)):PR w pr (.ints k xs) (.slice (some ⟨B,o,none⟩) xs.length cap)
 |slNil (e:Nat) (a:Option Addr):PR w pr (.sl e []) (.slice a 0 0)
 |sl (e:Nat) (xs:List PV) (B o cap:Nat) (cv:Nat->Nat->Value) (he:1≤e) (hcap:xs.length≤cap) (hlen: ∀x∈xs,x.cells.length=e)
   (h: ∀i x c y,xs[i]?=some x->x.cells[c]?=some y->cl w B (o+i*e+c)=some (cv i c)/\pr B (o+i*e+c))
   (h1: ∀i x c y,xs[i]?=some x->x.cells[c]?=some y->(cv i c).oneCell'=true)
   (hr: ∀i x c y,xs[i]?=some x->x.cells[c]?=some y->PR w pr y (cv i c)):PR w pr (.sl e xs) (.slice (some ⟨B,o,none⟩) xs.length cap)
 |agg (cs:List PV) (cvs:Array Value) (hlen:cs.length=cvs.size) (h: ∀j y,cs[j]?=some y->PR w pr y (cvs.getD j undef)):PR w pr (.agg cs) (.agg cvs)
def PV.isSl:PV->Bool
 | .ints _ _=>true
 | .sl _ _=>true
 |_=>false
structure Gi where
 blk:Option Nat
 e:Nat
 n:Nat
 off:Nat
structure Gh where
 loc:Nat->Nat->Option Gi
 prot:Bool->Nat->Nat->Prop
 mine:Nat->Prop
def Fw(w:World)(B k:Nat):Prop:= ∀j,j<k->(cl w B j).isSome=true
inductive VR (G:Gh) (w:World):AV->Value->Prop
 |lit (v:Value) (h:oQ v=true):VR G w (.lit v) v
 |imm (β:Bool) (p:PV) (v:Value) (h:PR w (G.prot β) p v) (hs:p.isSl=true):VR G w (.imm β p) v
 |unkB (b:Bool):VR G w (.imm true (.lit (.bool false))) (.bool b)
 |dead (v:Value) (h1:v.oneCell'=true) (h2:oQ v=true):VR G w (.imm false (.agg [])) v
 |ptr (b g i c:Nat) (L:Gi) (B:Nat) (hl:G.loc b g=some L) (hb:L.blk=some B):VR G w (.ptr b g i c) (.pointer (some ⟨B,L.off+(i*L.e+c),none⟩))
 |ms (b g o n cap:Nat) (L:Gi) (B:Nat) (hl:G.loc b g=some L) (hb:L.blk=some B) (hn:n≤cap) (hon:o+n≤L.n) (hf:Fw w B (L.off+(o+cap)*L.e)):
   VR G w (.ms b g o n) (.slice (some ⟨B,L.off+o*L.e,none⟩) n cap)
 |msNil (b g:Nat) (L:Gi) (hl:G.loc b g=some L) (hb:L.blk=none):VR G w (.ms b g 0 0) (.slice none 0 0)
 |msZ (b g o B oo:Nat) (L:Gi) (hl:G.loc b g=some L) (hb:L.blk=some B) (ho:1≤o) (hon:o≤L.n):VR G w (.ms b g o 0) (.slice (some ⟨B,oo,none⟩) 0 0)
 |msw (b g cap:Nat) (L:Gi) (B:Nat) (hl:G.loc b g=some L) (hb:L.blk=some B) (hn:L.n≤cap) (hf:Fw w B (L.off+cap*L.e)):
   VR G w (.msw b g) (.slice (some ⟨B,L.off,none⟩) L.n cap)
 |mswNil (b g:Nat) (L:Gi) (hl:G.loc b g=some L) (hb:L.blk=none) (hn:L.n=0):VR G w (.msw b g) (.slice none 0 0)
 |el (β:Bool) (p:PV) (c B o:Nat) (cv:Nat->Value)
   (h: ∀j y,p.cells[j]?=some y->cl w B (o+j)=some (cv j)/\G.prot β B (o+j))
   (hr: ∀j y,p.cells[j]?=some y->PR w (G.prot β) y (cv j)):VR G w (.el β p c) (.pointer (some ⟨B,o+c,none⟩))
 |fn (f:Fn) (fi ca:List AV) (fv cv:Array Value) (h1:fi.length=fv.size) (h2:ca.length=cv.size)
   (hf: ∀(j:Nat) (y:AV),fi[j]?=some y->VR G w y (fv.getD j undef)) (hc: ∀(j:Nat) (y:AV),ca[j]?=some y->VR G w y (cv.getD j undef)):VR G w (.fn f fi ca) (.func f fv cv)
 |agg (cs:List AV) (cvs:Array Value) (hlen:cs.length=cvs.size) (h: ∀(j:Nat) (y:AV),cs[j]?=some y->VR G w y (cvs.getD j undef)):VR G w (.agg cs) (.agg cvs)
 |tup (cs:List AV) (cvs:Array Value) (hlen:cs.length=cvs.size) (h: ∀(j:Nat) (y:AV),cs[j]?=some y->VR G w y (cvs.getD j undef)):VR G w (.tup cs) (.tuple cvs)
structure Ev (G:Gh) (w w':World):Prop where
 size:w.heap.size≤w'.heap.size
 out:w'.output=w.output
 os:w'.os=w.os
 away: ∀B,B<w.heap.size->¬G.mine B->w'.heap[B]?=w.heap[B]?
 some: ∀B o,(cl w B o).isSome=true->(cl w' B o).isSome=true
 prot: ∀β B o,G.prot β B o->cl w' B o=cl w B o
 fz: ∀B o,(cl w B o).isSome=true->w'.frozen? ⟨B,o,none⟩=w.frozen? ⟨B,o,none⟩
 tape:w'.tape=w.tape
structure dH (G G':Gh):Prop where
 mine:G'.mine=G.mine
 prot: ∀β B o,G.prot β B o->G'.prot β B o
 loc: ∀b g L,G.loc b g=some L->G'.loc b g=some L
 new: ∀β B o,G'.prot β B o->G.prot β B o\/G.mine B
theorem dH.refl(G:Gh):dH G G:=⟨rfl,λ_ _ _ h=>h,λ_ _ _ h=>h,λ_ _ _ h=> .inl h⟩
theorem dH.trans{G J K:Gh}(h:dH G J)(H:dH J K):dH G K:=
 ⟨H.mine.trans h.mine,λ_ _ _ x=>H.prot _ _ _ (h.prot _ _ _ x),λ_ _ _ x=>H.loc _ _ _ (h.loc _ _ _ x),λ_ _ _ x=>(H.new _ _ _ x).elim (h.new _ _ _) (λy=> .inr (by rw[<-h.mine];exact y))⟩
theorem Ev.refl(G:Gh)(w:World):Ev G w w:=⟨yb1 _,rfl,rfl,λ_ _ _=>rfl,λ_ _ h=>h,λ_ _ _ _=>rfl,λ_ _ _=>rfl,rfl⟩
theorem Ev.trans{G K:Gh}{w J N:World}(h:Ev G w J)(M:dH G K)(H:Ev K J N):Ev G w N where
 size:=yv2 h.size H.size
 out:=H.out.trans h.out
 os:=H.os.trans h.os
 away B hb hm:=(H.away B (yn2 hb h.size) (by rw[M.mine];exact hm)).trans (h.away B hb hm)
 some B o x:=H.some B o (h.some B o x)
 prot β B o x:=(H.prot β B o (M.prot _ _ _ x)).trans (h.prot β B o x)
 fz B o x:=(H.fz B o (h.some B o x)).trans (h.fz B o x)
 tape:=H.tape.trans h.tape
theorem Ev.of_eq{G:Gh}{w H:World}(J:H.heap=w.heap)(K:H.output=w.output)(hs:H.os=w.os)(ht:H.tape=w.tape):Ev G w H:=by
 have hc: ∀a,H.cell? a=w.cell? a:=λa=>by unfold World.cell?;rw[J]
 exact⟨by rw[J];exact yb1 _,K,hs,λB _ _=>by rw[J],λB o h=>by rw[cl,hc];exact h,λ_ _ _ _=>hc _,λ_ _ _=>by unfold World.frozen?;rw[J],ht⟩
theorem PR.mono{w W:World}{U M:Nat->Nat->Prop}(Y: ∀B o,U B o->M B o)(hc: ∀B o,U B o->cl W B o=cl w B o)
  {p:PV} {v:Value} (h:PR w U p v):PR W M p v:=by
 induction h with
 |lit v h=>exact .lit v h
 |intsNil k a=>exact .intsNil k a
 |ints k xs B o cap H h=>exact .ints k xs B o cap H λi x O=>⟨(hc _ _ (h i x O).2).trans (h i x O).1,Y _ _ (h i x O).2⟩
 |slNil e a=>exact .slNil e a
 |sl e xs B o cap cv Z H J h K hr V=>
  exact .sl e xs B o cap cv Z H J (λi x c y K N=>⟨(hc _ _ (h i x c y K N).2).trans (h i x c y K N).1,Y _ _ (h i x c y K N).2⟩) K (λi x c y K N=>V i x c y K N)
 |agg cs cvs J h V=>exact .agg cs cvs J λj y hy=>V j y hy
theorem Fw.mono{G:Gh}{w H:World}(K:Ev G w H){B k:Nat}(h:Fw w B k):Fw H B k:=λj J=>K.some B j (h j J)
theorem VR.mono{G G':Gh}{w w':World}(M:dH G G')(U:Ev G w w'){a:AV}{v:Value}(h:VR G w a v):VR G' w' a v:=by
 induction h with
 |lit v h=>exact .lit v h
 |imm β p v h hs=>exact .imm β p v (h.mono (M.prot β) (U.prot β)) hs
 |unkB b=>exact .unkB b
 |dead v Y W=>exact .dead v Y W
 |ptr b g i c L B K H=>exact .ptr b g i c L B (M.loc _ _ _ K) H
 |ms b g o n cap L B K H hn N hf=>exact .ms b g o n cap L B (M.loc _ _ _ K) H hn N (hf.mono U)
 |msNil b g L K H=>exact .msNil b g L (M.loc _ _ _ K) H
 |msZ b g o B oo L K H ho N=>exact .msZ b g o B oo L (M.loc _ _ _ K) H ho N
 |msw b g cap L B K H hn hf=>exact .msw b g cap L B (M.loc _ _ _ K) H hn (hf.mono U)
 |mswNil b g L K H hn=>exact .mswNil b g L (M.loc _ _ _ K) H hn
 |el β p c B o cv h hr=>
  exact .el β p c B o cv (λj y O=>⟨(U.prot _ _ _ (h j y O).2).trans (h j y O).1,M.prot _ _ _ (h j y O).2⟩) (λj y O=>(hr j y O).mono (M.prot β) (U.prot β))
 |fn f fi ca fv cv Y W hf hc Z V=>exact .fn f fi ca fv cv Y W Z V
 |agg cs cvs J h ih=>exact .agg cs cvs J ih
 |tup cs cvs J h ih=>exact .tup cs cvs J ih
def rZ(G:Gh)(w:World)(as:List AV)(vs:Array Value):Prop:=as.length=vs.size/\∀(j:Nat) (y:AV),as[j]?=some y->VR G w y (vs.getD j undef)
theorem rZ.mono{G H:Gh}{w J:World}(M:dH G H)(N:Ev G w J){as:List AV}{vs:Array Value}(h:rZ G w as vs):rZ H J as vs:=
 ⟨h.1,λj y K=>(h.2 j y K).mono M N⟩
def jA(w:World)(B:Nat):Prop:= ∃c el lo hi,w.heap[B]?=some (.cells c el (lo,hi))/\(lo=hi\/c.size≤lo)
def IT(G:Gh)(w:World)(B a:Nat):bC->Prop
 | .ints k xs=> ∀i x,xs[i]?=some x->cl w B (a+i)=some (.int k x)
 | .pvs β e xs=>(∀x∈xs,x.cells.length=e)/\∀(i:Nat) (x:PV) (c:Nat) (y:PV),xs[i]?=some x->x.cells[c]?=some y->∃v,cl w B (i*e+c)=some v/\v.oneCell'=true/\PR w (G.prot β) y v
 |_=>False
def OR(G:Gh)(w:World)(y:PV)(v:Value):Prop:=
 (∃ u, y = .lit u ∧ v = u) ∨ ∃ row, dG y = some row ∧ ((v = .slice none 0 0 ∧ row.len = 0) ∨ ∃ B' a cap, v = .slice (some ⟨B', a, none⟩) row.len cap ∧ (row.isInts = false → a = 0) ∧ row.len ≤ cap ∧ Fw w B' (a + cap * row.e) ∧
  G.mine B'/\B'<w.heap.size/\jA w B'/\IT G w B' a row/\∀β o,¬G.prot β B' o)
def aI(i c:Nat):List (Nat×Nat×AV)->Option AV
 | []=>none
 |(i',c',v)::r=>if i'=i/\c'=c then some v else aI i c r
def HR(G:Gh)(w:World)(o:Option AV)(y:PV)(v:Value):Prop:=
 match o with
 |some a=>VR G w a v
 |none=>OR G w y v
def jR(G:Gh)(w:World)(B a:Nat):bC->Prop
 | .own e xs hs=>(∀h∈hs,h.1<xs.length)/\(∀x∈xs,x.cells.length=e)/\∀(i:Nat) (x:PV) (c:Nat) (y:PV),xs[i]?=some x->x.cells[c]?=some y->
   ∃v,cl w B (i*e+c)=some v/\v.oneCell'=true/\HR G w (aI i c hs) y v
 | .ints k xs=> ∀i x,xs[i]?=some x->cl w B (a+i)=some (.int k x)
 | .pvs β e xs=>(∀x∈xs,x.cells.length=e)/\∀(i:Nat) (x:PV) (c:Nat) (y:PV),xs[i]?=some x->x.cells[c]?=some y->∃v,cl w B (i*e+c)=some v/\v.oneCell'=true/\PR w (G.prot β) y v
 | .cells e cs=>cs.length=e*aY e cs.length/\∀(j:Nat) (y:AV),cs[j]?=some y->∃v,cl w B j=some v/\v.oneCell'=true/\VR G w y v
theorem jA.cell{w:World}{B:Nat}(h:jA w B){o:Nat}(H:(cl w B o).isSome=true):w.frozen? ⟨B,o,none⟩=false:=by
 obtain⟨c,el,lo,hi,J,hf⟩:=h;unfold cl World.cell? at H;simp only[J,Option.isSome_none,yt2,if_false]at H;have K:o<c.size:=by
  rcases yq2 o c.size with h|h
  ·exact h
  ·rw[Array.getElem?_eq_none h]at H;cases H
 unfold World.frozen?;simp only[J,Bool.and_eq_false_iff,decide_eq_false_iff_not];omega
theorem jA.of_heap{w H:World}{B:Nat}(h:jA w B)(N:H.heap[B]?=w.heap[B]?):jA H B:=by
 obtain⟨c,el,J,M,K,hf⟩:=h;exact⟨c,el,J,M,by rw[N];exact K,hf⟩
structure Wz (G:Gh) (w:World) (b:Nat) (x:bV):Prop where
 e:1≤x.row.e
 loc: ∃o a,G.loc b x.gen=some ⟨o,x.row.e,x.row.len,a⟩/\(x.row.isInts=false->a=0)/\
  match o with
  |none=>x.row.len=0/\x.row.isCells=false
  |some B=>G.mine B/\B<w.heap.size/\jA w B/\jR G w B a x.row/\(x.frz=false->∀β o,¬G.prot β B o)
def fP(G:Gh)(b:Nat)(x:bV)(B:Nat):Prop:= ∃L,G.loc b x.gen=some L/\L.blk=some B
def c6(w:World)(B:Nat)(r:bC)(i c B':Nat):Prop:=
 match r with
 | .own e xs hs=>(∃x y row,xs[i]?=some x/\x.cells[c]?=some y/\dG y=some row)/\aI i c hs=none/\∃a n cap,cl w B (i*e+c)=some (.slice (some ⟨B',a,none⟩) n cap)
 |_=>False
theorem c6.own{w:World}{B:Nat}{r:bC}{i c B':Nat}(h:c6 w B r i c B'):r.isOwn=true:=by
 cases r<;>first|rfl|cases h
def lR(G:Gh)(w:World)(mem:aO)(b B':Nat):Prop:= ∃(b':Nat) (y:bV) (B:Nat),b'≠b/\mem[b']?=some (some y)/\fP G b' y B/\(B'=B\/∃i c,c6 w B y.row i c B')
variable [cS]
def o4(G:Gh)(w:World):Prop:= ∀(g:Nat) (q:Int×Int),cS.tab g=some q->(cl w g 0=some (.int .i64 q.1)/\G.prot true g 0)/\cl w g 1=some (.int .i64 q.2)/\G.prot true g 1
theorem o4.mono{G J:Gh}{w K:World}(h:o4 G w)(M: ∀B o,G.prot true B o->J.prot true B o)(hc: ∀B o,G.prot true B o->cl K B o=cl w B o):o4 J K:=λg q H=>
 ⟨⟨(hc _ _ (h g q H).1.2).trans (h g q H).1.1,M _ _ (h g q H).1.2⟩,(hc _ _ (h g q H).2.2).trans (h g q H).2.1,M _ _ (h g q H).2.2⟩
structure aJ (G:Gh) (w:World) (mem:aO):Prop where
 box: ∀(b:Nat) (x:bV),mem[b]?=some (some x)->Wz G w b x
 unset: ∀b g,(∀x:bV,mem[b]?≠some (some x))->G.loc b g=none
 gens: ∀(b:Nat) (x:bV) (g:Nat),mem[b]?=some (some x)->x.gen<g->G.loc b g=none
 apart: ∀(b b':Nat) (x x':bV) (L L':Gi) (B:Nat),mem[b]?=some (some x)->mem[b']?=some (some x')->G.loc b x.gen=some L->G.loc b' x'.gen=some L'->
  L.blk=some B->L'.blk=some B->b=b'
 inA: ∀(b b':Nat) (x x':bV) (B i c B':Nat),mem[b]?=some (some x)->fP G b x B->c6 w B x.row i c B'->mem[b']?=some (some x')->¬fP G b' x' B'
 inB: ∀(b b':Nat) (x x':bV) (B C i c i' c' B':Nat),mem[b]?=some (some x)->fP G b x B->c6 w B x.row i c B'->mem[b']?=some (some x')->fP G b' x' C->c6 w C x'.row i' c' B'->b=b'/\i=i'/\c=c'
 own: ∀B,w.heap.size≤B->G.mine B
 lab: ∀B o,G.prot false B o->G.prot true B o
 away: ∀β B o,G.prot β B o->B<w.heap.size
 glob:o4 G w
def QM(w w':World)(B:Nat):Prop:=(∀o,cl w' B o=cl w B o)/\(jA w B->jA w' B)
theorem QM.of{w H:World}{B:Nat}(h:H.heap[B]?=w.heap[B]?):QM w H B:=⟨λo=>by unfold cl World.cell?;simp only[h],λhf=>hf.of_heap h⟩
theorem IT.mono{G O:Gh}{w J:World}(U:dH G O)(V:Ev G w J){B a:Nat}(H: ∀o,(cl w B o).isSome=true->cl J B o=cl w B o){r:bC}(h:IT G w B a r):IT O J B a r:=by
 cases r with
 |ints k xs=>exact λi x M=>by rw[H (a+i) (by rw[h i x M];rfl)];exact h i x M
 |pvs β e xs=>
  refine⟨h.1,λi x c y Y W=>?_⟩;obtain⟨v,N,K,Z⟩:=h.2 i x c y Y W;exact⟨v,by rw[H _ (by rw[N];rfl)];exact N,K,Z.mono (U.prot β) (V.prot β)⟩
 |cells e cs=>cases h
 |own e xs hs=>cases h
theorem OR.mono{G K:Gh}{w J:World}(O:dH G K)(N:Ev G w J){y:PV}{v:Value}(h:OR G w y v)
  (M: ∀B' a n cap,(∃row,dG y=some row)->v= .slice (some ⟨B',a,none⟩) n cap->QM w J B'/\∀β o,¬K.prot β B' o):OR K J y v:=by
 rcases h with h|⟨row,H,h⟩
 ·exact .inl h
 ·refine .inr ⟨row,H,?_⟩;rcases h with h|⟨B',a,cap,V,Z,h1,h2,W,h4,h5,Y,h7⟩
  ·exact .inl h
  ·obtain⟨U,hp⟩:=M B' _ _ _ ⟨row,H⟩ V;exact .inr ⟨B',a,cap,V,Z,h1,h2.mono N,by rw[O.mine];exact W,yn2 h4 N.size,U.2 h5,Y.mono O N (λo _=>U.1 o),hp⟩
theorem jR.mono{G Z:Gh}{w U:World}(O:dH G Z)(V:Ev G w U){B a:Nat}(H: ∀o,(cl w B o).isSome=true->cl U B o=cl w B o){r:bC}
  (hin: ∀i c B',c6 w B r i c B'->QM w U B'/\∀β o,¬Z.prot β B' o) (h:jR G w B a r):jR Z U B a r:=by
 cases r with
 |ints k xs=>exact λi x hx=>by rw[H (a+i) (by rw[h i x hx];rfl)];exact h i x hx
 |pvs β e xs=>
  refine⟨h.1,λi x c y Y W=>?_⟩;obtain⟨v,M,K,N⟩:=h.2 i x c y Y W;exact⟨v,by rw[H _ (by rw[M];rfl)];exact M,K,N.mono (O.prot β) (V.prot β)⟩
 |cells e cs=>
  refine⟨h.1,λj y hy=>?_⟩;obtain⟨v,M,K,N⟩:=h.2 j y hy;exact⟨v,by rw[H _ (by rw[M];rfl)];exact M,K,N.mono O V⟩
 |own e xs hs=>
  refine⟨h.1,h.2.1,λi x c y Y W=>?_⟩;obtain⟨v,M,K,N⟩:=h.2.2 i x c y Y W;refine⟨v,by rw[H _ (by rw[M];rfl)];exact M,K,?_⟩;cases ho:aI i c hs with
  |some a=>rw[ho]at N;exact VR.mono O V N
  |none=>
   rw[ho]at N;refine OR.mono O V N λB' a' n cap J hvv=>?_;obtain⟨row,J⟩:=J;exact hin i c B' ⟨⟨x,y,row,Y,W,J⟩,ho,a',n,cap,by rw[M,hvv]⟩
theorem aJ.blk{G:Gh}{w:World}{mem:aO}(hM:aJ G w mem){b:Nat}{x:bV}{B:Nat}(N:mem[b]?=some (some x))(hB:fP G b x B):
  ∃a,G.loc b x.gen=some ⟨some B,x.row.e,x.row.len,a⟩/\(x.row.isInts=false->a=0)/\G.mine B/\B<w.heap.size/\jA w B/\jR G w B a x.row/\(x.frz=false->∀β o,¬G.prot β B o):=by
 obtain⟨L,U,M⟩:=hB;obtain⟨o,O,J,K,hm⟩:=(hM.box b x N).loc;have H:=U;rw[J]at H;obtain rfl:=yb H;simp only at M;subst M;exact⟨O,J,K,hm⟩
theorem aJ.blkSz{G:Gh}{w:World}{mem:aO}(hM:aJ G w mem){b:Nat}{x:bV}{B:Nat}(H:mem[b]?=some (some x))(hB:fP G b x B):B<w.heap.size:=
 let ⟨_,_,_,_,h,_⟩:=hM.blk H hB;h
theorem aJ.inn{G:Gh}{w:World}{mem:aO}(hM:aJ G w mem){b:Nat}{x:bV}{B i c B':Nat}(V:mem[b]?=some (some x))(hB:fP G b x B)(K:c6 w B x.row i c B'):
  G.mine B'/\B'<w.heap.size/\jA w B'/\∀β o,¬G.prot β B' o:=by
 obtain⟨_,_,_,_,_,_,hr,_⟩:=hM.blk V hB;cases H:x.row with
 |own e xs hs=>
  rw[H]at K hr;obtain⟨⟨p,y,row,h1,Y,U⟩,ho,a',n,cap,hc⟩:=K;obtain⟨v,J,_,M⟩:=hr.2.2 i p c y h1 Y;rw[ho]at M;rw[hc]at J;obtain rfl:=yb J;rcases M with ⟨u,hu,_⟩|⟨row',N,M⟩
  ·subst hu;simp[dG]at U
  ·rcases M with ⟨hn,_⟩|⟨B2,a2,O,J,_,_,_,Z,m2,m3,_,W⟩
   ·cases hn
   ·simp only[Value.slice.injEq,Option.some.injEq,Addr.mk.injEq,true_and,and_true]at J;obtain⟨⟨rfl,_⟩,_⟩:=J;exact⟨Z,m2,m3,W⟩
 |_=>rw[H]at K;cases K
theorem aJ.other{G:Gh}{w:World}{mem:aO}(hM:aJ G w mem){b B':Nat}(h:lR G w mem b B'):G.mine B'/\B'<w.heap.size/\jA w B':=by
 obtain⟨b',y,B,_,M,hB,h⟩:=h;rcases h with rfl|⟨i,c,N⟩
 ·obtain⟨_,_,_,K,J,H,_⟩:=hM.blk M hB;exact⟨K,J,H⟩
 ·obtain⟨K,J,H,_⟩:=hM.inn M hB N;exact⟨K,J,H⟩
theorem aJ.other_ne{G:Gh}{w:World}{mem:aO}(hM:aJ G w mem){b B B':Nat}{x:bV}(M:mem[b]?=some (some x))(hB:fP G b x B)(h:lR G w mem b B'):B'≠B:=by
 rintro rfl
 obtain⟨O,y,C,H,N,hC,h⟩:=h;rcases h with rfl|⟨i,c,U⟩
 ·obtain⟨L,Y,W⟩:=hB;obtain⟨V,K,J⟩:=hC;exact H (hM.apart O b y x V L _ N M K Y J W)
 ·exact hM.inA O b y x C i c _ N hC U M hB
theorem aJ.other_inn{G:Gh}{w:World}{mem:aO}(hM:aJ G w mem){b B i c B':Nat}{x:bV}(K:mem[b]?=some (some x))(hB:fP G b x B)(M:c6 w B x.row i c B'): ¬lR G w mem b B':=by
 rintro⟨O,y,C,H,N,hC,h⟩
 rcases h with rfl|⟨V,U,J⟩
 ·exact hM.inA b O x y B i c _ K hB M N hC
 ·exact H (hM.inB b O x y B C i c V U B' K hB M N hC J).1.symm
end Go.Ab
end
section
namespace Go.Ab
variable [cS]
theorem eE{w H:World}{B:Nat}(h:H.heap[B]?=w.heap[B]?)(o:Nat):cl H B o=cl w B o:=by
 unfold cl World.cell?;simp only[h]
theorem JD{w H:World}{B:Nat}(h:H.heap[B]?=w.heap[B]?)(o:Nat):H.frozen? ⟨B,o,none⟩=w.frozen? ⟨B,o,none⟩:=by
 unfold World.frozen?;simp only[h]
theorem JO{w:World}{B o:Nat}(h:(cl w B o).isSome=true):B<w.heap.size:=by
 obtain⟨u,H⟩:=Option.isSome_iff_exists.1 h;exact World.block_lt_of_cell? (a:=⟨B,o,none⟩) _ H
def Gh.put(G:Gh)(b g:Nat)(L:Gi):Gh:={G with loc:=λb' g'=>if b'=b/\g'=g then some L else G.loc b' g'}
theorem Gh.put_self(G:Gh)(b g:Nat)(L:Gi):(G.put b g L).loc b g=some L:=by simp[Gh.put]
theorem Gh.put_ne(G:Gh){b g H g':Nat}(L:Gi)(h: ¬(H=b/\g'=g)):(G.put b g L).loc H g'=G.loc H g':=by simp[Gh.put,h]
theorem dH.put{G:Gh}{b g:Nat}{L:Gi}(h:G.loc b g=none\/G.loc b g=some L):dH G (G.put b g L):=by
 refine⟨rfl,λ_ _ _ x=>x,λJ g' L' H=>?_,λ_ _ _ x=> .inl x⟩;by_cases e:J=b/\g'=g
 ·obtain⟨rfl,rfl⟩:=e;rw[Gh.put_self];rcases h with h|h<;>rw[h]at H<;>simp_all
 ·rw[Gh.put_ne _ _ e];exact H
structure KW (G:Gh) (w w1:World) (mem:aO) (b:Nat) (x':bV) (L:Gi):Prop where
 other: ∀B',lR G w mem b B'->w1.heap[B']?=w.heap[B']?
 apart: ∀B,L.blk=some B->¬lR G w mem b B
 self: ∀B,L.blk=some B->∀i c B',c6 w1 B x'.row i c B'->¬lR G w mem b B'/\B'≠B
 inj: ∀B,L.blk=some B->∀i c i2 c2 B',c6 w1 B x'.row i c B'->c6 w1 B x'.row i2 c2 B'->i=i2/\c=c2
theorem KW.plain{G:Gh}{w H:World}{mem:aO}{b:Nat}{x':bV}{L:Gi}(J:x'.row.isOwn=false)(M: ∀B',lR G w mem b B'->H.heap[B']?=w.heap[B']?)(K: ∀B,L.blk=some B->¬lR G w mem b B):KW G w H mem b x' L:=
 ⟨M,K,λB _ i c B' h=>absurd h.own (by rw[J];decide),λB _ i c i2 c2 B' h _=>absurd h.own (by rw[J];decide)⟩
theorem c6.same{w H:World}{B:Nat}{r:bC}{i c B':Nat}(h:c6 H B r i c B')(hs: ∀o,cl H B o=cl w B o):c6 w B r i c B':=by
 cases r with
 |own e xs hs'=>obtain⟨M,K,a,n,cap,J⟩:=h;exact⟨M,K,a,n,cap,by rw[<-hs];exact J⟩
 |_=>cases h
theorem lR.at{G:Gh}{w:World}{mem:aO}{b H:Nat}{y:bV}{B:Nat}(J:H≠b)(K:mem[H]?=some (some y))(hB:fP G H y B):lR G w mem b B:=⟨H,y,B,J,K,hB,.inl rfl⟩
theorem lR.inn{G:Gh}{w:World}{mem:aO}{b H:Nat}{y:bV}{B i c B':Nat}(J:H≠b)(K:mem[H]?=some (some y))(hB:fP G H y B)(M:c6 w B y.row i c B'):lR G w mem b B':=⟨H,y,B,J,K,hB,.inr ⟨i,c,M⟩⟩
theorem aJ.upd{G:Gh}{w w1:World}{mem:aO}{b:Nat}{x':bV}{L:Gi}(hM:aJ G w mem)(hev:Ev G w w1)(hb:b<mem.length)
  (hput:G.loc b x'.gen=none\/G.loc b x'.gen=some L) (N:KW G w w1 mem b x' L)
  (hgen: ∀g,x'.gen<g->G.loc b g=none)
  (hbox:Wz (G.put b x'.gen L) w1 b x'):aJ (G.put b x'.gen L) w1 (mem.set b (some x')):=by
 have hg:=dH.put hput;have K: ∀(M:Nat) (y:bV),(mem.set b (some x'))[M]?=some (some y)->(M=b/\y=x')\/(M≠b/\mem[M]?=some (some y)):=by
  intro M y h;by_cases e:M=b
  ·subst e;rw[yt hb]at h;left;exact⟨rfl,by simpa using h.symm⟩
  ·rw[yp (λx=>e x.symm)]at h;right;exact⟨e,h⟩
 have H: ∀{B:Nat},fP (G.put b x'.gen L) b x' B->L.blk=some B:=by
  rintro B ⟨L1,l1,k1⟩
  rw[Gh.put_self]at l1;obtain rfl:=yb l1;exact k1
 have J: ∀{M:Nat} {y:bV} {B:Nat},M≠b->fP (G.put b x'.gen L) M y B->fP G M y B:=by
  rintro M y B e ⟨L1,l1,k1⟩
  rw[Gh.put_ne _ _ (λx=>e x.1)]at l1;exact⟨L1,l1,k1⟩
 have Z: ∀{M:Nat} {y:bV} {B:Nat},M≠b->mem[M]?=some (some y)->fP G M y B->∀o,cl w1 B o=cl w B o:=λe hy hB o=>eE (N.other _ (.at e hy hB)) o;refine⟨λM y h=>?_,λM g h=>?_,λM y g h hlt=>?_,λb1 b2 y1 y2 L1 L2 B h1 h2 l1 l2 k1 O=>?_,λb1 b2 y1 y2 B i c B' h1 k1 hi h2 O=>?_,λb1 b2 y1 y2 B C i c i' c' B' h1 k1 hi h2 O hi'=>?_,λB h=>hM.own B (yv2 hev.size h),hM.lab,fun β B o h=>yn2 (hM.away β B o h) hev.size,hM.glob.mono (hg.prot true) (hev.prot true)⟩
 ·rcases K M y h with ⟨rfl,rfl⟩|⟨e,h⟩
  ·exact hbox
  ·have hx:=hM.box M y h;obtain⟨o,a0,hl,ha0,hm⟩:=hx.loc;refine⟨hx.e,o,a0,hg.loc _ _ _ hl,ha0,?_⟩;cases o with
   |none=>exact hm
   |some B=>
    obtain⟨hm1,hm2,hm3,hm4,hm5⟩:=hm;have hB:fP G M y B:=⟨_,hl,rfl⟩
    have hh:=N.other B (.at e h hB);exact⟨hm1,yn2 hm2 hev.size,hm3.of_heap hh,hm4.mono hg hev (λo _=>eE hh o) (λi c B' hi=>⟨.of (N.other B' (.inn e h hB hi)),(hM.inn h hB hi).2.2.2⟩),hm5⟩
 ·by_cases e:M=b
  ·subst e;exact absurd (yt hb) (h x')
  ·rw[Gh.put_ne _ _ (λx=>e x.1)];exact hM.unset M g λx hx=>h x (by rw[yp (λx=>e x.symm)];exact hx)
 ·rcases K M y h with ⟨rfl,rfl⟩|⟨e,h⟩
  ·rw[Gh.put_ne _ _ (λx=>by omega)];exact hgen g hlt
  ·rw[Gh.put_ne _ _ (λx=>e x.1)];exact hM.gens M y g h hlt
 ·rcases K b1 y1 h1 with ⟨f1,W⟩|⟨U,g1⟩<;>rcases K b2 y2 h2 with ⟨f2,V⟩|⟨Y,g2⟩
  ·rw[f1,f2]
  ·subst f1 W;exact absurd (.at Y g2 (J Y ⟨L2,l2,O⟩)) (N.apart B (H ⟨L1,l1,k1⟩))
  ·subst f2 V;exact absurd (.at U g1 (J U ⟨L1,l1,k1⟩)) (N.apart B (H ⟨L2,l2,O⟩))
  ·rw[Gh.put_ne _ _ (λx=>U x.1)]at l1;rw[Gh.put_ne _ _ (λx=>Y x.1)]at l2;exact hM.apart b1 b2 y1 y2 L1 L2 B g1 g2 l1 l2 k1 O
 ·rcases K b1 y1 h1 with ⟨f1,W⟩|⟨U,g1⟩<;>rcases K b2 y2 h2 with ⟨f2,V⟩|⟨Y,g2⟩
  ·subst f1 W f2 V;have hB:=H k1;have h2:=H O;have h3:=hB;rw[h2]at h3;exact(N.self B hB i c B' hi).2 (yb h3)
  ·subst f1 W;exact(N.self B (H k1) i c B' hi).1 (.at Y g2 (J Y O))
  ·subst f2 V;have k1:=J U k1;exact N.apart B' (H O) (.inn U g1 k1 (hi.same (Z U g1 k1)))
  ·have k1:=J U k1;exact hM.inA b1 b2 y1 y2 B i c B' g1 k1 (hi.same (Z U g1 k1)) g2 (J Y O)
 ·rcases K b1 y1 h1 with ⟨f1,W⟩|⟨U,g1⟩<;>rcases K b2 y2 h2 with ⟨f2,V⟩|⟨Y,g2⟩
  ·subst f1 W f2 V;have hB:=H k1;have hC:=H O;rw[hB]at hC;obtain rfl:=yb hC;exact⟨rfl,N.inj B hB i c i' c' B' hi hi'⟩
  ·subst f1 W;have O:=J Y O;exact absurd (.inn Y g2 O (hi'.same (Z Y g2 O))) (N.self B (H k1) i c B' hi).1
  ·subst f2 V;have k1:=J U k1;exact absurd (.inn U g1 k1 (hi.same (Z U g1 k1))) (N.self C (H O) i' c' B' hi').1
  ·have k1:=J U k1;have O:=J Y O;exact hM.inB b1 b2 y1 y2 B C i c i' c' B' g1 k1 (hi.same (Z U g1 k1)) g2 O (hi'.same (Z Y g2 O))
theorem gA{w:World}{o:Obj}{B:Nat}(h:B<w.heap.size):(w.alloc o).heap[B]?=w.heap[B]?:=by
 simp only[World.alloc];rw[Array.getElem?_push];rw[if_neg (by omega)]
theorem GC{w:World}{o:Obj}{B j:Nat}(h:B<w.heap.size):cl (w.alloc o) B j=cl w B j:=eE (gA h) j
theorem mO{w:World}{c:Array Value}{t:TypeId}{fr:Nat×Nat}{j:Nat}:cl (w.alloc (.cells c t fr)) w.heap.size j=c[j]?:=by
 unfold cl World.cell? World.alloc;simp
theorem E9(w:World)(c:Array Value)(t:TypeId)(a:Addr):(w.alloc (.cells c t)).frozen? a=w.frozen? a:=by
 by_cases h:a.block<w.heap.size
 ·unfold World.frozen?;simp only[gA h]
 ·have J:w.heap[a.block]?=none:=by simp;omega
  by_cases K:a.block=w.heap.size
  ·have H:(w.alloc (.cells c t)).heap[a.block]?=some (.cells c t):=by rw[K];show(w.heap.push (.cells c t))[w.heap.size]?=_;simp
   unfold World.frozen?;simp[H,J]
  ·have H:(w.alloc (.cells c t)).heap[a.block]?=none:=by show(w.heap.push (.cells c t))[a.block]?=none;rw[Array.getElem?_eq_none];simp;omega
   unfold World.frozen?;simp[H,J]
theorem jA.alloc{w:World}{c:Array Value}{t:TypeId}:jA (w.alloc (.cells c t)) w.heap.size:=⟨c,t,0,0,by show(w.heap.push _)[w.heap.size]?=_;simp,.inl rfl⟩
theorem Ev.alloc(G:Gh)(w:World)(o:Obj)(H: ∀β B x,G.prot β B x->B<w.heap.size)(J: ∃c t,o= .cells c t:=by exact⟨_,_,rfl⟩):Ev G w (w.alloc o) where
 size:=by simp
 out:=rfl
 os:=rfl
 away B hb _:=gA hb
 some B j h:=by rw[GC (JO h)];exact h
 prot β B j h:=GC (H β B j h)
 fz B o _:=by obtain⟨c,t,rfl⟩:=J;exact E9 w c t _
 tape:=rfl
theorem Ev.drew(G:Gh)(w:World):Ev G w w.drew:=Ev.of_eq rfl rfl rfl rfl
theorem eF{w:World}{B B':Nat}(h:B'≠B): ∀(vs:List Value) (o:Nat) (w:World),(w.setCells B o vs).heap[B']?=w.heap[B']?
 | [],_,_=>rfl
 |v::r,o,w=>by
  rw[World.setCells,eF (w:=w) h r];exact heap_setCell_other w ⟨B,o,none⟩ B' v h
theorem nX{B:Nat}: ∀(vs:List Value) (o:Nat) (w:World),(w.setCells B o vs).heap.size=w.heap.size
 | [],_,_=>rfl
 |v::r,o,w=>by rw[World.setCells,nX r];simp
theorem wB{B:Nat}: ∀(vs:List Value) (o:Nat) (w:World),(w.setCells B o vs).output=w.output/\(w.setCells B o vs).os=w.os
 | [],_,_=>⟨rfl,rfl⟩
 |v::r,o,w=>by rw[World.setCells];exact wB r _ _
theorem Bu{B:Nat}: ∀(vs:List Value) (o:Nat) (w:World),(w.setCells B o vs).tape=w.tape
 | [],_,_=>rfl
 |v::r,o,w=>by rw[World.setCells];exact Bu r _ _
theorem mB{w:World}{B o:Nat}{vs:List Value}(h: ∀j,j<vs.length->(cl w B (o+j)).isSome=true){j:Nat}(H:j<vs.length):
  cl (w.setCells B o vs) B (o+j)=some vs[j]:=World.cell?_setCells_in B vs o w h j H
theorem kY{w:World}{B o:Nat}{vs:List Value}{j:Nat}(h:j<o\/o+vs.length≤j):cl (w.setCells B o vs) B j=cl w B j:=
 World.cell?_setCells_out B vs o w ⟨B,j,none⟩ (λ_ _=>h)
theorem E0{w:World}{B o:Nat}{vs:List Value}(h: ∀j,j<vs.length->(cl w B (o+j)).isSome=true){B' j:Nat}(hs:(cl w B' j).isSome=true):
  (cl (w.setCells B o vs) B' j).isSome=true:=by
 by_cases e:B'=B
 ·subst e;by_cases H:j<o\/o+vs.length≤j
  ·rw[kY H];exact hs
  ·obtain⟨k,rfl⟩: ∃k,j=o+k:=⟨j-o,by omega⟩
   rw[mB h (by omega)];rfl
 ·rw[eE (eF (w:=w) e vs o w)];exact hs
theorem G6{w:World}{B o:Nat}{vs:List Value}(a:Addr):(w.setCells B o vs).frozen? a=w.frozen? a:=World.frozen?_setCells B vs o w a
theorem jA.setCell{w:World}{B o:Nat}{v:Value}(h:jA w B):jA (w.setCell ⟨B,o,none⟩ v) B:=by
 obtain⟨c,el,H,K,J,hf⟩:=h;refine⟨c.setIfInBounds o v,el,H,K,?_,by simpa using hf⟩;unfold World.setCell;simp[Array.getElem?_modify,J]
theorem jA.setCells{B:Nat}: ∀{vs:List Value} {o:Nat} {w:World},jA w B->jA (w.setCells B o vs) B
 | [],_,_,h=>h
 |v::r,o,w,h=>by rw[World.setCells];exact jA.setCells h.setCell
theorem Ev.setCells{G:Gh}{w:World}{B o:Nat}{vs:List Value}(hm:G.mine B)(h: ∀j,j<vs.length->(cl w B (o+j)).isSome=true)
  (H: ∀β j,¬G.prot β B j):Ev G w (w.setCells B o vs) where
 size:=by rw[nX];exact yb1 _
 out:=(wB vs o w).1
 os:=(wB vs o w).2
 away B' hb hn:=eF (w:=w) (λe:B'=B=>hn (by rw[e];exact hm)) vs o w
 some B' j hs:=E0 h hs
 prot β B' j hj:=by
  by_cases e:B'=B
  ·subst e;exact absurd hj (H β j)
  ·exact eE (eF (w:=w) e vs o w) j
 fz B o _:=G6 _
 tape:=Bu vs o w
theorem aJ.make{G:Gh}{w:World}{mem:aO}{b:Nat}{row:bC}{c:Array Value}{t:TypeId}(hM:aJ G w mem)(M:mem[b]?=some none)
  (U:1≤row.e) (hr:jR (G.put b 0 ⟨some w.heap.size,row.e,row.len,0⟩) (w.alloc (.cells c t)) w.heap.size 0 row) (H: ∀i V B',¬c6 (w.alloc (.cells c t)) w.heap.size row i V B'):
  aJ (G.put b 0 ⟨some w.heap.size,row.e,row.len,0⟩) (w.alloc (.cells c t)) (mem.set b (some {gen:=0,frz:=false,row})):=by
 have K:b<mem.length:=by
  rcases yq2 b mem.length with h|h
  ·exact h
  ·rw[yc1 h]at M;cases M
 have J: ∀g,G.loc b g=none:=λg=>hM.unset b g (λx O=>by rw[M]at O;cases O);have N:=Ev.alloc G w (.cells c t) hM.away;refine hM.upd (x':={gen:=0,frz:=false,row}) N K (.inl (J 0)) ⟨λB' h=>gA (hM.other h).2.1,λB hB h=>?_,λB hB i c B' h=>?_,λB hB i c i2 c2 B' h _=>?_⟩ (λg _=>J g) ?_
 ·simp only[Option.some.injEq]at hB;subst hB;exact yk4 _ (hM.other h).2.1
 ·simp only[Option.some.injEq]at hB;subst hB;exact absurd h (H i c B')
 ·simp only[Option.some.injEq]at hB;subst hB;exact absurd h (H i c B')
 ·refine⟨U,some w.heap.size,0,by simp[Gh.put],λ_=>rfl,hM.own _ (yb1 _),by simp,jA.alloc,hr,λ_ β o W=>?_⟩
  ·exact absurd (hM.away β _ o W) (yk4 _)
theorem aJ.ev{G:Gh}{w M:World}{mem:aO}(hM:aJ G w mem)(J:Ev G w M)(hs:M.heap.size=w.heap.size\/w.heap.size≤M.heap.size)
  (H: ∀B,B<w.heap.size->M.heap[B]?=w.heap[B]?):aJ G M mem where
 box b x h:=by
  have Z:=hM.box b x h;obtain⟨o,a0,hl,O,hm⟩:=Z.loc;refine⟨Z.e,o,a0,hl,O,?_⟩;cases o with
  |none=>exact hm
  |some B=>
   obtain⟨U,N,W,Y,V⟩:=hm;have hh:=H B N;have hB:fP G b x B:=⟨_,hl,rfl⟩
   exact⟨U,yn2 N J.size,W.of_heap hh,Y.mono (dH.refl G) J (λo _=>eE hh o) (λi c B' K=>⟨.of (H B' (hM.inn h hB K).2.1),(hM.inn h hB K).2.2.2⟩),V⟩
 unset:=hM.unset
 gens:=hM.gens
 apart:=hM.apart
 inA b b' x x' B i c B' h k K h':=hM.inA b b' x x' B i c B' h k (K.same λo=>eE (H B (hM.blkSz h k)) o) h'
 inB b b' x x' B C i c i' c' B' h k K h' k' hi':=hM.inB b b' x x' B C i c i' c' B' h k (K.same λo=>eE (H B (hM.blkSz h k)) o) h' k' (hi'.same λo=>eE (H C (hM.blkSz h' k')) o)
 own B h:=hM.own B (yv2 J.size h)
 lab:=hM.lab
 away β B o h:=yn2 (hM.away β B o h) J.size
 glob:=hM.glob.mono (λ_ _ h=>h) (J.prot true)
end Go.Ab
end
section
namespace Go.Ab
variable [cS]
theorem aA{α:Type}{c:Bool}{x:Option α}{y:α}:guardB c x=some y↔c=true/\x=some y:=by
 cases c<;>simp[guardB]
theorem l6{a b:IntKind}:jS a b=true↔a=b:=by cases a<;>cases b<;>simp[jS]
section
variable {P:Program}
def nI(P:Program)(G:Gh)(w:World)(mem:aO)(o:Oper)(a:Act)(out:dY):Prop:=
 ∃G' w' nx cv,(execOp a.eval o).run P w= .ok nx w'/\(nx= .value cv\/(nx= .skip/\cv=undef))/\VR G' w' out.v cv/\dH G G'/\Ev G w w'/\aJ G' w' (out.apply mem)
theorem HI(v:AV)(rd:List Nat)(mem:aO):({v,rd}:dY).apply mem=mem:=by simp[dY.apply,aR]
theorem nI.pure{G:Gh}{w:World}{mem:aO}{o:Oper}{a:Act}{v:AV}{rd:List Nat}{cv:Value}(hM:aJ G w mem)
  (H:(execOp a.eval o).run P w= .ok (.value cv) w) (J:VR G w v cv):nI P G w mem o a {v,rd}:=
 ⟨G,w,.value cv,cv,H,.inl rfl,J,dH.refl G,Ev.refl G w,by rw[HI];exact hM⟩
def TX(G:Gh)(w:World)(ρ:Operand->Option AV)(a:Act):Prop:= ∀x v,ρ x=some v->VR G w v (a.eval x)
theorem VR.lit_inv{G:Gh}{w:World}{v cv:Value}(h:VR G w (.lit v) cv):cv=v:=by cases h;rfl
theorem Mp(w:World){t:TypeId}(a b:Bool)(h:P.underlying t=some .bool):(binOp .eql t (.bool a) (.bool b)).run P w= .ok (.bool (a==b)) w:=by
 have:(Op.equal t (.bool a) (.bool b)).run P w= .ok (a==b) w:=run_equalIn_bool w 9999 t a b h;simp only[binOp];simp[this]
theorem MD(w:World){t:TypeId}(a b:Bool)(h:P.underlying t=some .bool):(binOp .neq t (.bool a) (.bool b)).run P w= .ok (.bool (!(a==b))) w:=by
 have:(Op.equal t (.bool a) (.bool b)).run P w= .ok (a==b) w:=run_equalIn_bool w 9999 t a b h;simp only[binOp];simp[this]
theorem QC{op:BinOp}{t:TypeId}{x y:Operand}{a b r:Value}{w:World}(H:Io P t a b=true)(h:wN op a b=some r):
  (eqGuard op t x y a b).run P w= .ok () w/\(binOp op t a b).run P w= .ok r w:=by
 unfold wN at h;split at h
 ·rename_i k a k' b;refine⟨by rw[eqGuard_at_int];rfl,?_⟩;split at h<;>simp only[aA,Option.some.injEq,decide_eq_true_eq,yx,beq_eq_false_iff_ne,ne_eq]at h
  ·obtain⟨M,rfl⟩:=h;simp[binOp,Op.shift,Int.not_lt.2 M]
  ·obtain⟨M,rfl⟩:=h;simp[binOp,Op.shift,Int.not_lt.2 M]
  all_goals
   first
   |(obtain⟨J,K,rfl⟩:=h;rw[l6]at J;subst J;simp[binOp,Op.intDiv,K])
   |(obtain⟨J,rfl⟩:=h;rw[l6]at J;subst J;simp[binOp,Op.intArith,Op.intBits,Op.intCmp])
 ·rename_i a b;have K:P.underlying t=some .bool:=by
   simp only[Io,My]at H;split at H<;>simp_all
  refine⟨by rw[eqGuard_at_bool];rfl,?_⟩;split at h<;>simp only[Option.some.injEq,reduceCtorEq]at h
  ·subst h;exact Mp w a b K
  ·subst h;exact MD w a b K
 ·rename_i a b;refine⟨by rw[eqGuard_at_string];rfl,?_⟩;split at h<;>simp only[Option.some.injEq,reduceCtorEq]at h
  ·subst h;simp[binOp,Op.stringOp]
  ·subst h;simp[binOp,Op.stringOp]
 ·simp at h
theorem J4{op:BinOp}{a b r:Value}(h:wN op a b=some r):oQ r=true:=by
 unfold wN at h
 repeat' split at h
 all_goals (simp only[aA,Option.some.injEq,reduceCtorEq]at h)
 all_goals first
  |(subst h;rfl)
  |(obtain⟨_,rfl⟩:=h;rfl)
  |(obtain⟨_,_,rfl⟩:=h;rfl)
theorem MB{op:UnOp}{a r:Value}(h:KJ op a=some r):oQ r=true:=by
 unfold KJ at h;split at h<;>simp only[Option.some.injEq,reduceCtorEq]at h<;>subst h<;>rfl
theorem Sm{op:UnOp}{a r:Value}{w:World}(h:KJ op a=some r):(Op.unary op a).run P w= .ok r w:=by
 unfold KJ at h;split at h<;>simp only[Option.some.injEq,reduceCtorEq]at h<;>subst h<;>simp[Op.unary,Op.intArith,Op.intBits]
theorem GV{t:TypeId}{d:TypeDesc}(K:P.underlying t=some d)(h1: ∀fs,d≠ .struct fs)(h2: ∀n e,d≠ .array n e){cs:Array Value}{o:Nat}{v:Value}(J:cs[o]?=some v)(w:World):
  (part t cs o).run P w= .ok v w:=by
 have H:(isAgg t).run P w= .ok false w:=by
  simp only[isAgg,Sem.run_bind,run_underlying K,Result.andThen_ok];rfl
 simp only[part,Sem.run_bind,H,Result.andThen_ok,yt2,if_false,J];rfl
theorem Lj(d:Nat)(G:Gh)(w:World): ∀(fs:List Field) (n:Nat) (xs J:List AV) (as bs:List Value) (A B:Array Value) (r:Bool),
  (xs.length=as.length/\∀(j:Nat) (y:AV),xs[j]?=some y->VR G w y (as.getD j undef))->(J.length=bs.length/\∀(j:Nat) (y:AV),J[j]?=some y->VR G w y (bs.getD j undef))->
  (∀j:Nat,j<as.length->A[n+j]?=as[j]?)->(∀j:Nat,j<bs.length->B[n+j]?=bs[j]?)->nU P fs n xs J=some r->
  (Op.eqFields (d+1) A B fs).run P w= .ok r w:=by
 intro fs
 induction fs with
 |nil=>
  intro n xs J as bs A B r _ _ _ _ h;cases xs<;>cases J<;>simp[nU]at h;subst h;simp[Op.eqFields]
 |cons f fs ih=>
  intro n xs J as bs A B r ha Z hA hB h;cases xs with
  |nil=>simp[nU]at h
  |cons x xs=>
  cases J with
  |nil=>simp[nU]at h
  |cons y J=>
  cases as with
  |nil=>simp at ha
  |cons a as=>
  cases bs with
  |nil=>simp at Z
  |cons b bs=>
   have Y:=ha.2 0 x rfl;have W:=Z.2 0 y rfl;simp only[List.getD_cons_zero]at Y W;have ha':xs.length=as.length/\∀(j:Nat) (y:AV),xs[j]?=some y->VR G w y (as.getD j undef):=⟨by simpa using ha.1,λj y hy=>by simpa using ha.2 (j+1) y (by simpa using hy)⟩
   have hb':J.length=bs.length/\∀(j:Nat) (y:AV),J[j]?=some y->VR G w y (bs.getD j undef):=⟨by simpa using Z.1,λj y hy=>by simpa using Z.2 (j+1) y (by simpa using hy)⟩
   simp only[nU,aA,yc,bne_iff_ne,ne_eq]at h;obtain⟨⟨hn,H⟩,h⟩:=h;have H:=Nat.eq_of_beq_eq_true H;obtain⟨q,N,h⟩:=yp1.1 h;obtain⟨r',hr,rfl⟩:=yf.1 h;have h0a:A[f.offset]?=some a:=by rw[H];simpa using hA 0 (by simp)
   have h0b:B[f.offset]?=some b:=by rw[H];simpa using hB 0 (by simp)
   have M:(Op.equalIn (d+1) f.type a b).run P w= .ok q w/\∃dd,P.underlying f.type=some dd/\(∀fs,dd≠ .struct fs)/\(∀n e,dd≠ .array n e):=by
    unfold Ek at N;split at N
    ·rename_i k1 k x k' y K;obtain⟨hk,hq2⟩:=aA.1 N;rw[l6]at hk;subst hk;obtain rfl:=Y.lit_inv;obtain rfl:=W.lit_inv;obtain rfl:=yb hq2;exact⟨run_equalIn_int w d f.type k k1 x y K,_,K,by simp,by simp⟩
    ·rename_i x y K;obtain rfl:=Y.lit_inv;obtain rfl:=W.lit_inv;obtain rfl:=yb N;exact⟨run_equalIn_bool w d f.type x y K,_,K,by simp,by simp⟩
    ·rename_i x y K;obtain rfl:=Y.lit_inv;obtain rfl:=W.lit_inv;obtain rfl:=yb N;exact⟨run_equalIn_string w d f.type x y K,_,K,by simp,by simp⟩
    ·simp at N
   obtain⟨hqr,dd,V,O,U⟩:=M;have e1:(Op.eqFields (d+1) A B (f::fs)).run P w=(if(!q)=true then(Pure.pure false:Sem Bool)else Op.eqFields (d+1) A B fs).run P w:=by
    simp only[Op.eqFields];rw[if_pos hn];simp only[Sem.run_bind,GV V O U h0a,GV V O U h0b,hqr,Result.andThen_ok]
   rw[e1];cases q with
   |false=>rfl
   |true=>
    rw[yq1];refine Eq.trans ?_<|ih (n+1) xs J as bs A B r' ha' hb' (λj hj=>by have:=hA (j+1) (by simpa using hj);rw[show n+1+j=n+(j+1) by omega];simpa using this)
     (λj hj=>by have:=hB (j+1) (by simpa using hj);rw[show n+1+j=n+(j+1) by omega];simpa using this) hr
    rfl
theorem VR.agg_inv{G:Gh}{w:World}{cs:List AV}{cv:Value}(h:VR G w (.agg cs) cv): ∃cvs:Array Value,cv= .agg cvs/\rZ G w cs cvs:=by
 cases h with
 |agg _ cvs H h=>exact⟨cvs,rfl,H,h⟩
theorem BB{G:Gh}{w:World}{t:TypeId}{xs H:List AV}{A B:Array Value}{r:Bool}(h:pT P t xs H=some r)(O:rZ G w xs A)(N:rZ G w H B)(x y:Operand):
  (Op.equalIn 10000 t (.agg A) (.agg B)).run P w= .ok r w/\P.eqGuardType P.depth t=false:=by
 unfold pT at h;split at h
 ·rename_i fs K;obtain⟨hc,h⟩:=aA.1 h;simp only[yc,yx]at hc;have hf:P.fieldsOf t=fs:=by simp[Program.fieldsOf,K]
  refine⟨?_,hc.2⟩;rw[show(10000:Nat)=9999+1 from rfl,run_equalIn_agg w 9999 t A B (by rw[hf];exact K) hc.1,hf];have M: ∀(C:Array Value) (j:Nat),C.toList.getD j undef=C.getD j undef:=by
   intro C j;simp[ym,yo]
  exact Lj 9998 G w fs.toList 0 xs H A.toList B.toList A B r ⟨by simpa using O.1,λj y J=>by rw[M];exact O.2 j y J⟩ ⟨by simpa using N.1,λj y J=>by rw[M];exact N.2 j y J⟩
   (λj _=>by simp) (λj _=>by simp) h
 ·simp at h
theorem VR.tree_slice{G:Gh}{w:World}{β:Bool}{p:PV}{J:Value}{e:Bool}(O:VR G w (.imm β p) J)(h:nM p=some e): ∃a l c,J= .slice a l c/\(e=false->a.isNone=false):=by
 cases O with
 |imm _ _ _ N hs=>
  cases N with
  |lit _ _=>cases h
  |intsNil k a=>simp only[nM,Option.some.injEq]at h;subst h;exact⟨_,_,_,rfl,λh=>by cases h⟩
  |ints k xs B o cap H M=>exact⟨_,_,_,rfl,λ_=>rfl⟩
  |slNil k a=>simp only[nM,Option.some.injEq]at h;subst h;exact⟨_,_,_,rfl,λh=>by cases h⟩
  |sl e' xs B o cap cv he H K M h3 h4=>exact⟨_,_,_,rfl,λ_=>rfl⟩
  |agg _ _ _ _=>cases h
 |unkB b=>cases h
 |dead _ _ _=>cases h
theorem Nc{t:TypeId}(h:Dp P t=true): ∃e,P.underlying t=some (.slice e):=by
 unfold Dp at h;split at h
 ·rename_i e H;exact⟨e,H⟩
 ·cases h
theorem iV{G:Gh}{w:World}(op:BinOp)(t:TypeId)(x y:Operand)(a b:Option Addr)(l c H J:Nat):(eqGuard op t x y (.slice a l c) (.slice b H J)).run P w= .ok () w:=by
 unfold eqGuard;split<;>rfl
theorem G7{w:World}(d:Nat){t e:TypeId}{a:Option Addr}{l c:Nat}(H:P.underlying t=some (.slice e)):(Op.equalIn (d+1) t (.slice a l c) (.slice none 0 0)).run P w= .ok a.isNone w:=by
 cases a<;>simp[Op.equalIn,run_underlying H]
theorem o7{G:Gh}{w:World}{op:BinOp}{t:TypeId}{a:Option Addr}{l c:Nat}(hs:Dp P t=true):
  (binOp .eql t (.slice a l c) (.slice none 0 0)).run P w= .ok (.bool a.isNone) w/\(binOp .neq t (.slice a l c) (.slice none 0 0)).run P w= .ok (.bool (!a.isNone)) w:=by
 obtain⟨e,H⟩:=Nc hs;have h:(Op.equal t (.slice a l c) (.slice none 0 0)).run P w= .ok a.isNone w:=G7 9999 H;constructor
 ·simp only[binOp,Sem.run_bind,h,Result.andThen_ok];rfl
 ·simp only[binOp,Sem.run_bind,h,Result.andThen_ok];rfl
theorem Um{G:Gh}{w:World}{op:BinOp}{t:TypeId}{x y:Operand}{a b r:AV}{N Y:Value}(h:yN P op t a b=some r)(H:VR G w a N)(M:VR G w b Y):
    ∃cv,(eqGuard op t x y N Y).run P w= .ok () w/\(binOp op t N Y).run P w= .ok cv w/\VR G w r cv:=by
  unfold yN at h;split at h
  · rename_i β p
    obtain rfl:=M.lit_inv;split at h
    · obtain⟨hs,h⟩:=aA.1 h
      obtain⟨e,O,rfl⟩:=yf.1 h;obtain⟨U,l,c,rfl,hn⟩:=H.tree_slice O;refine⟨.bool U.isNone,iV (G:=G) _ t x y _ _ _ _ _ _,(o7 (G:=G) (op:= .eql) hs).1,?_⟩;cases e with
      |true=>exact .unkB _
      |false=>rw[hn rfl];exact .lit _ rfl
    · obtain⟨hs,h⟩:=aA.1 h
      obtain⟨e,O,rfl⟩:=yf.1 h;obtain⟨U,l,c,rfl,hn⟩:=H.tree_slice O;refine⟨.bool (!U.isNone),iV (G:=G) _ t x y _ _ _ _ _ _,(o7 (G:=G) (op:= .neq) hs).2,?_⟩;cases e with
      |true=>exact .unkB _
      |false=>rw[hn rfl];exact .lit _ rfl
    · cases h
  · obtain rfl:=H.lit_inv;obtain rfl:=M.lit_inv
    split at h
    · obtain⟨hs,h⟩:=aA.1 h
      obtain rfl:=yb h;exact⟨.bool true,iV (G:=G) _ t x y _ _ _ _ _ _,(o7 (G:=G) (op:= .eql) hs).1,.lit _ rfl⟩
    · obtain⟨hs,h⟩:=aA.1 h
      obtain rfl:=yb h;exact⟨.bool false,iV (G:=G) _ t x y _ _ _ _ _ _,(o7 (G:=G) (op:= .neq) hs).2,.lit _ rfl⟩
    · cases h
  · rename_i a b _
    obtain⟨W,h⟩:=aA.1 h;obtain⟨v,hv,rfl⟩:=yf.1 h;obtain rfl:=H.lit_inv;obtain rfl:=M.lit_inv;obtain⟨K,J⟩:=QC (P:=P) (x:=x) (y:=y) (w:=w) W hv;exact⟨v,K,J,.lit v (J4 hv)⟩
  · rename_i as bs
    obtain⟨A,rfl,hA⟩:=H.agg_inv;obtain⟨B,rfl,hB⟩:=M.agg_inv;split at h
    · obtain⟨q,Z,rfl⟩:=yf.1 h
      obtain⟨K,J⟩:=BB Z hA hB x y;exact⟨.bool q,run_eqGuard_agg w _ t x y A B J,by rw[run_eql_struct,K];rfl,.lit _ rfl⟩
    · obtain⟨q,Z,rfl⟩:=yf.1 h
      obtain⟨K,J⟩:=BB Z hA hB x y;exact⟨.bool (!q),run_eqGuard_agg w _ t x y A B J,by rw[run_neq_struct,K];rfl,.lit _ rfl⟩
    · simp at h
  all_goals first
    |(simp at h;done)
    | (obtain rfl := M.lit_inv
       have hp: ∃p,N= .pointer (some p):=by cases H<;>exact⟨_,rfl⟩
       obtain⟨p,rfl⟩:=hp;split at h
       · obtain⟨hc,h⟩:=aA.1 h
         have V:P.underlying t=some (.pointer (P.pointee t)):=by
           unfold K7 at hc;split at hc<;>simp_all[Program.pointee]
         simp only[Option.some.injEq]at h;subst h;exact⟨.bool false,by rw[eqGuard_at_pointer];rfl,by rw[run_eql_pointer_nil w t _ V];rfl,.lit _ rfl⟩
       · obtain⟨hc,h⟩:=aA.1 h
         have V:P.underlying t=some (.pointer (P.pointee t)):=by
           unfold K7 at hc;split at hc<;>simp_all[Program.pointee]
         simp only[Option.some.injEq]at h;subst h;exact⟨.bool true,by rw[eqGuard_at_pointer];rfl,by rw[run_neq_pointer_nil w t _ V];rfl,.lit _ rfl⟩
       · simp at h)
end
end Go.Ab
end
section
namespace Go.Ab
variable [cS]
section
variable {P:Program}
theorem bind_some{α β:Type}{x:Option α}{f:α->Option β}{y:β}:x.bind f=some y↔∃a,x=some a/\f a=some y:=yp1
theorem FW{α:Type}{c:Bool}{a b:α}:(bif c then some a else none)=some b↔c=true/\a=b:=by cases c<;>simp
theorem bZ{a b:Nat}:Nat.beq a b=true↔a=b:=⟨Nat.eq_of_beq_eq_true,λh=>by subst h;exact yr3 a⟩
theorem dA{a b:Nat}:Nat.ble a b=true↔a≤b:=by rw[Nat.ble_eq]
theorem AN{t:TypeId}{b:Bool}(h:isAgg? P t=some b)(w:World):(isAgg t).run P w= .ok b w:=by
 unfold isAgg? at h;split at h
 ·rename_i d;simp only[isAgg,Sem.run_bind,run_underlying d,Result.andThen_ok];obtain rfl:=yb h;rfl
 ·rename_i d;simp only[isAgg,Sem.run_bind,run_underlying d,Result.andThen_ok];obtain rfl:=yb h;rfl
 ·rename_i K J H d;obtain rfl:=yb h;simp only[isAgg,Sem.run_bind,run_underlying d,Result.andThen_ok];cases K<;>first|rfl|exact absurd rfl (J _)|exact absurd rfl (H _ _)
 ·simp at h
theorem T1{t:TypeId}{n:Nat}(h:k8 P t=some n): ∃i,P.info? t=some i/\i.size=n:=by
 unfold k8 at h;obtain⟨i,H,hn⟩:=yf.1 h;exact⟨i,H,hn⟩
theorem fN{t:TypeId}{n:Nat}(h:k8 P t=some n)(w:World):(sizeOf t).run P w= .ok n w:=by
 obtain⟨i,H,rfl⟩:=T1 h;simp[sizeOf,typeInfo,H]
theorem dU(B o n:Nat):(⟨B,o,none⟩:Addr).add n=⟨B,o+n,none⟩:=by
 unfold Addr.add;split<;>simp_all
theorem oT{t:TypeId}{n B o:Nat}(K:isAgg? P t=some true)(hn:k8 P t=some n){w:World}(f:Nat->Value)(h: ∀j,j<n->cl w B (o+j)=some (f j)):
  (loadVar t ⟨B,o,none⟩).run P w= .ok (.agg ((List.range n).map f).toArray) w:=by
 have J:=run_loadCells (P:=P) w ⟨B,o,none⟩ n f (λj H=>by rw[dU];exact h j H);simp only[loadVar,Sem.run_bind,AN K,fN hn,Result.andThen_ok,if_true,J,Sem.run_pure]
theorem kU{t:TypeId}{B o:Nat}(H:isAgg? P t=some false){w:World}{v:Value}(h:cl w B o=some v):
  (loadVar t ⟨B,o,none⟩).run P w= .ok v w:=by
 have J:w.cell? ⟨B,o,none⟩=some v:=h;simp only[loadVar,Sem.run_bind,AN H,Result.andThen_ok,yt2,if_false,run_load,J]
theorem PR.lit_inv{w:World}{H:Nat->Nat->Prop}{v cv:Value}(h:PR w H (.lit v) cv):cv=v:=by cases h;rfl
theorem wK{G:Gh}{w:World}{β:Bool}{l:LK}{q:PV}{a:AV}{v:Value}(h:iO β l q=some a)(K:PR w (G.prot β) q v):VR G w a v:=by
 unfold iO at h;split at h
 ·rw[bind_some]at h;obtain⟨x,H,h⟩:=h;obtain rfl:=yb h;unfold PV.int? at H;split at H
  ·rename_i M n;rw[FW]at H;obtain⟨J,H⟩:=H;subst H;rw[l6]at J;subst J;rw[K.lit_inv];exact .lit _ rfl
  ·simp at H
 ·rw[bind_some]at h;obtain⟨x,H,h⟩:=h;obtain rfl:=yb h;unfold PV.bool? at H;split at H
  ·obtain rfl:=yb H;rw[K.lit_inv];exact .lit _ rfl
  ·simp at H
 ·rw[bind_some]at h;obtain⟨x,H,h⟩:=h;obtain rfl:=yb h;unfold PV.str? at H;split at H
  ·obtain rfl:=yb H;rw[K.lit_inv];exact .lit _ rfl
  ·simp at H
 ·rw[bind_some]at h;obtain⟨x,H,h⟩:=h;obtain rfl:=yb h;unfold PV.ints? at H;split at H
  ·rename_i M xs;rw[FW]at H;obtain⟨J,H⟩:=H;subst H;rw[l6]at J;subst J;exact .imm β _ v K rfl
  ·simp at H
 ·rw[bind_some]at h;obtain⟨x,H,h⟩:=h;obtain rfl:=yb h;unfold PV.sl? at H;split at H
  ·rename_i e' xs;rw[FW]at H;obtain⟨J,H⟩:=H;subst H;rw[bZ]at J;subst J;exact .imm β _ v K rfl
  ·simp at H
theorem qJ{G:Gh}{w:World}{β:Bool}{cs:List PV}: ∀{ls:List LK} {c:Nat} {as:List AV},jE β cs ls c=some as->
  as.length=ls.length/\∀(f:Nat->Value),(∀(j:Nat) (y:PV),cs[c+j]?=some y->j<ls.length->PR w (G.prot β) y (f j))->
   (∀j,j<ls.length->∃y,cs[c+j]?=some y)/\∀(j:Nat) (y:AV),as[j]?=some y->VR G w y (f j)
 | [],c,as,h=>by
  simp[jE]at h;subst h;exact⟨rfl,λf _=>⟨λj J=>absurd J (by simp),λj y H=>by simp at H⟩⟩
 |l::r,c,as,h=>by
  simp only[jE]at h;rw[bind_some]at h;obtain⟨q,M,h⟩:=h;rw[bind_some]at h;obtain⟨a,W,h⟩:=h;rw[bind_some]at h;obtain⟨O,K,h⟩:=h;obtain rfl:=yb h;obtain⟨V,Y⟩:=qJ (G:=G) (w:=w) K;refine⟨by simp[V],λf hf=>?_⟩;obtain⟨N,U⟩:=Y (λj=>f (j+1)) (λj y H J=>hf (j+1) y (by rw[show c+(j+1)=c+1+j by omega];exact H) (by simpa using J));refine⟨λj J=>?_,λj y H=>?_⟩
  ·cases j with
   |zero=>exact⟨q,M⟩
   |succ j=>obtain⟨y,H⟩:=N j (by simpa using J);exact⟨y,by rw[show c+(j+1)=c+1+j by omega];exact H⟩
  ·cases j with
   |zero=>simp at H;subst H;exact wK W (hf 0 q M (by simp))
   |succ j=>exact U j y (by simpa using H)
theorem K2{G:Gh}{w:World}{β:Bool}{t:TypeId}{p:PV}{c B o:Nat}{a:AV}{cv:Nat->Value}(h:QS P β t p c=some a)
  (hc: ∀j y,p.cells[j]?=some y->cl w B (o+j)=some (cv j)) (hr: ∀j y,p.cells[j]?=some y->PR w (G.prot β) y (cv j)):
  ∃v,(loadVar t ⟨B,o+c,none⟩).run P w= .ok v w/\VR G w a v:=by
 unfold QS at h;split at h
 ·rename_i H;rw[bind_some]at h;obtain⟨ls,W,h⟩:=h;rw[bind_some]at h;obtain⟨n,hn,h⟩:=h;rw[aA]at h;obtain⟨N,h⟩:=h;obtain rfl:=bZ.1 N;rw[bind_some]at h;obtain⟨as,M,h⟩:=h;obtain rfl:=yb h;obtain⟨O,hf⟩:=qJ (G:=G) (w:=w) M;obtain⟨Y,V⟩:=hf (λj=>cv (c+j)) (λj y J _=>hr _ y J);refine⟨_,oT H hn (λj=>cv (c+j)) (λj K=>?_),.agg _ _ (by simp[O]) λj y J=>?_⟩
  ·obtain⟨y,J⟩:=Y j K;rw[show o+c+j=o+(c+j) by omega];exact hc _ y J
  ·have K:j<ls.length:=by rw[<-O];exact(yd.1 J).1
   have:=V j y J;simpa[yo,K]using this
 ·rename_i H;rw[bind_some]at h;obtain⟨l,O,h⟩:=h;rw[bind_some]at h;obtain⟨q,U,h⟩:=h;exact⟨cv c,kU H (hc c q U),wK h (hr c q U)⟩
 ·simp at h
theorem box?_some{mem:aO}{b g:Nat}{x:bV}(h:box? mem b g=some x):mem[b]?=some (some x)/\x.gen=g:=by
 unfold box? at h;split at h
 ·rename_i y e;cases H:Nat.beq y.gen g<;>cases J:y.row.isOwn<;>simp[H,J]at h;subst h;exact⟨e,bZ.1 H⟩
 ·simp at h
theorem box?_own{mem:aO}{b g:Nat}{x:bV}(h:box? mem b g=some x):x.row.isOwn=false:=by
 unfold box? at h;split at h
 ·rename_i y e;cases J:Nat.beq y.gen g<;>cases H:y.row.isOwn<;>simp[J,H]at h;subst h;exact H
 ·simp at h
theorem boxO?_some{mem:aO}{b g:Nat}{x:bV}(h:boxO? mem b g=some x):mem[b]?=some (some x)/\x.gen=g/\x.row.isOwn=true:=by
 unfold boxO? at h;split at h
 ·rename_i y e;cases H:Nat.beq y.gen g<;>cases J:y.row.isOwn<;>simp[H,J]at h;subst h;exact⟨e,bZ.1 H,J⟩
 ·simp at h
theorem aJ.at_ptr'{G:Gh}{w:World}{mem:aO}(hM:aJ G w mem){b g i c:Nat}{x:bV}{cv:Value}(hm:mem[b]?=some (some x))(J:x.gen=g)(h:VR G w (.ptr b g i c) cv):
  ∃B a,cv= .pointer (some ⟨B,a+(i*x.row.e+c),none⟩)/\G.loc b g=some ⟨some B,x.row.e,x.row.len,a⟩/\(x.row.isInts=false->a=0)/\G.mine B/\B<w.heap.size/\
   jA w B/\jR G w B a x.row/\(x.frz=false->∀β o,¬G.prot β B o):=by
 subst J;have Y:=hM.box b x hm;obtain⟨o,U,K,H,hr⟩:=Y.loc;cases h with
 |ptr _ _ _ _ L B hL hB=>
  rw[K]at hL;obtain rfl:=yb hL;simp only at hB;subst hB;obtain⟨W,O,M,V,N⟩:=hr;exact⟨B,U,rfl,K,H,W,O,M,V,N⟩
theorem aJ.at_ptr{G:Gh}{w:World}{mem:aO}(hM:aJ G w mem){b g i c:Nat}{x:bV}{cv:Value}(H:box? mem b g=some x)(h:VR G w (.ptr b g i c) cv):
  ∃B a,cv= .pointer (some ⟨B,a+(i*x.row.e+c),none⟩)/\G.loc b g=some ⟨some B,x.row.e,x.row.len,a⟩/\(x.row.isInts=false->a=0)/\G.mine B/\B<w.heap.size/\
   jA w B/\jR G w B a x.row/\(x.frz=false->∀β o,¬G.prot β B o):=hM.at_ptr' (box?_some H).1 (box?_some H).2 h
theorem F7{G:Gh}{w:World}{mem:aO}{t:TypeId}{a:AV}{out:dY}{cv:Value}(hM:aJ G w mem)(h:lI P t mem a=some out)(ha:VR G w a cv):
  ∃v rd,out={v,rd}/\∃H,(Instr.loadAt t cv).run P w= .ok H w/\VR G w v H:=by
 unfold lI at h;split at h
 ·rename_i β p c;obtain⟨v,U,rfl⟩:=yf.1 h;refine⟨v,[],rfl,?_⟩;cases ha with
  |el _ _ _ B o f h hr=>
   obtain⟨H,W,K⟩:=K2 (P:=P) (w:=w) (o:=o) (B:=B) U (λj y Y=>(h j y Y).1) hr;exact⟨H,by simp[Instr.loadAt,Instr.sureAddr,W],K⟩
 ·rename_i b g i c;rw[bind_some]at h;obtain⟨x,hx,h⟩:=h;obtain⟨B,a0,rfl,hl,ha0,hmine,hB,hfz,V,hpr⟩:=hM.at_ptr hx ha;have N: ∀H,(loadVar t ⟨B,a0+(i*x.row.e+c),none⟩).run P w= .ok H w->(Instr.loadAt t (.pointer (some ⟨B,a0+(i*x.row.e+c),none⟩))).run P w= .ok H w:=by
   intro H hh;simp[Instr.loadAt,Instr.sureAddr,hh]
  obtain⟨gen,frz,row⟩:=x;split at h
  ·rename_i e cs J;simp only at J;subst J;obtain rfl:=ha0 rfl;simp only[ye1]at N⊢
   rw[bind_some]at h;obtain⟨ag,O,h⟩:=h;obtain⟨_,M⟩:=V;cases ag with
   |true=>
    simp only[yh]at h;rw[bind_some]at h;obtain⟨n,hn,h⟩:=h;rw[aA]at h;obtain⟨hle,h⟩:=h;have hle:=dA.1 hle;obtain rfl:=yb h;refine⟨_,_,rfl,_,N _ (oT O hn (λj=>(cl w B (i*e+c+j)).getD undef) (λj hj=>?_)),.agg _ _ ?_ ?_⟩
    ·obtain⟨v,U,_,_⟩:=M (i*e+c+j) (cs[i*e+c+j]'(by omega)) (ye _);show cl w B _=_;simp only[bC.e];rw[U];rfl
    ·simp;omega
    ·intro j y Y;have hj:j<n:=by have:=(yd.1 Y).1;simp at this;omega
     have hy':cs[i*e+c+j]?=some y:=by
      rw[yu1 hj,yg1]at Y;exact Y
     obtain⟨v,U,_,K⟩:=M _ y hy';simpa[yo,hj,U]using K
   |false=>
    simp only[yg]at h;obtain⟨v,U,rfl⟩:=yf.1 h;obtain⟨u,hu,_,K⟩:=M _ v U;exact⟨_,_,rfl,u,N _ (kU O hu),K⟩
  ·rename_i k xs J;simp only at J;subst J;rw[aA]at h;obtain⟨hc0,h⟩:=h;obtain rfl:=bZ.1 hc0;rw[aA]at h;obtain⟨O,h⟩:=h;obtain⟨v,U,rfl⟩:=yf.1 h;have hc:=V i v U;have Z:isAgg? P t=some false:=by
    cases hh:isAgg? P t with
    |none=>simp[hh]at O
    |some q=>cases q<;>simp[hh]at O⊢
   exact⟨_,_,rfl,_,N _ (kU Z (by simpa[bC.e]using hc)),.lit _ rfl⟩
  ·rename_i β e xs J;simp only at J;subst J;obtain rfl:=ha0 rfl;simp only[ye1]at N⊢
   rw[bind_some]at h;obtain⟨p,hp,h⟩:=h;obtain⟨v,U,rfl⟩:=yf.1 h;obtain⟨_,M⟩:=V;obtain⟨H,W,K⟩:=K2 (P:=P) (w:=w) (G:=G) (o:=i*e) (B:=B) (cv:=λj=>(cl w B (i*e+j)).getD undef) U
    (λj y Y=>by obtain⟨u,hu,_,_⟩:=M i p j y hp Y;rw[hu];rfl)
    (λj y Y=>by obtain⟨u,hu,_,hpr⟩:=M i p j y hp Y;rw[hu];exact hpr)
   exact⟨_,_,rfl,H,N _ W,K⟩
  ·simp at h
 ·simp at h
end
end Go.Ab
end
section
namespace Go.Ab
variable [cS]
section
variable {P:Program}
theorem E5{α:Type}{xs:List α}{i:Int}{v:α}(h:aF xs i=some v):0≤i/\i.toNat<xs.length/\xs[i.toNat]?=some v:=by
 unfold aF at h;cases H:decide (0≤i)<;>simp only[H,yh,yg,reduceCtorEq]at h;exact⟨of_decide_eq_true H,(yd.1 h).1,h⟩
theorem jM(k:IntKind)(i:Int)(w:World):(asIntOf (.int k i)).run P w= .ok (k,i) w:=rfl
theorem eP{t H:TypeId}{s B o len cap:Nat}{k:IntKind}{i:Int}(J:P.underlying t=some (.slice H))(hs:k8 P H=some s)(K:0≤i)(M:i<(len:Int))(w:World):
  (Instr.indexAt t (.slice (some ⟨B,o,none⟩) len cap) (.int k i)).run P w= .ok (.pointer (some ⟨B,o+i.toNat*s,none⟩)) w:=by
 simp only[Instr.indexAt,Sem.run_bind,jM,Result.andThen_ok,run_underlying J,Sem.run_pure,K,M,and_self,if_true,fN hs,dU]
theorem Ei{t H:TypeId}{s B o n:Nat}{k:IntKind}{i:Int}(J:P.underlying t=some (.array n H))(hs:k8 P H=some s)(K:0≤i)(M:i<(n:Int))(w:World):
  (Instr.indexAt t (.pointer (some ⟨B,o,none⟩)) (.int k i)).run P w= .ok (.pointer (some ⟨B,o+i.toNat*s,none⟩)) w:=by
 simp only[Instr.indexAt,Sem.run_bind,jM,Result.andThen_ok,run_underlying J,Sem.run_pure,K,M,and_self,if_true,fN hs,dU,Instr.sureAddr]
theorem aJ.at_ms{G:Gh}{w:World}{mem:aO}(hM:aJ G w mem){b g o n:Nat}{x:bV}{cv:Value}(O:box? mem b g=some x)(h:VR G w (.ms b g o n) cv):
  (∃ B a cap, cv = .slice (some ⟨B, a + o * x.row.e, none⟩) n cap ∧ n ≤ cap ∧ o + n ≤ x.row.len ∧ G.loc b g = some ⟨some B, x.row.e, x.row.len, a⟩ ∧ (x.row.isInts = false → a = 0) ∧ Fw w B (a + (o + cap) * x.row.e) ∧ G.mine B ∧ B < w.heap.size ∧
   jA w B/\jR G w B a x.row/\(x.frz=false->∀β o,¬G.prot β B o))\/
  (cv= .slice none 0 0/\o=0/\n=0/\x.row.len=0/\∃a,G.loc b g=some ⟨none,x.row.e,x.row.len,a⟩)\/
  (∃B K,cv= .slice (some ⟨B,K,none⟩) 0 0/\1≤o/\n=0/\o≤x.row.len/\∃a,G.loc b g=some ⟨some B,x.row.e,x.row.len,a⟩):=by
 obtain⟨hm,rfl⟩:=box?_some O;have hb:=hM.box b x hm;obtain⟨K,Y,J,M,hr⟩:=hb.loc;cases h with
 |ms _ _ _ _ cap L B hL hB hn H hf=>
  rw[J]at hL;obtain rfl:=yb hL;simp only at hB;subst hB;obtain⟨Z,V,N,W,U⟩:=hr;exact .inl ⟨B,Y,cap,rfl,hn,H,J,M,hf,Z,V,N,W,U⟩
 |msNil _ _ L hL hB=>
  rw[J]at hL;obtain rfl:=yb hL;simp only at hB;subst hB;exact .inr (.inl ⟨rfl,rfl,rfl,hr.1,_,J⟩)
 |msZ _ _ _ B K L hL hB ho H=>
  rw[J]at hL;obtain rfl:=yb hL;simp only at hB;subst hB;exact .inr (.inr ⟨B,K,rfl,ho,rfl,H,_,J⟩)
theorem aJ.at_msw{G:Gh}{w:World}{mem:aO}(hM:aJ G w mem){b g:Nat}{x:bV}{cv:Value}(M:box? mem b g=some x)(h:VR G w (.msw b g) cv):
  (∃ B a cap, cv = .slice (some ⟨B, a, none⟩) x.row.len cap ∧ x.row.len ≤ cap ∧ G.loc b g = some ⟨some B, x.row.e, x.row.len, a⟩ ∧ (x.row.isInts = false → a = 0) ∧ Fw w B (a + cap * x.row.e) ∧ G.mine B ∧ B < w.heap.size ∧
   jA w B/\jR G w B a x.row/\(x.frz=false->∀β o,¬G.prot β B o))\/
  (cv= .slice none 0 0/\x.row.len=0/\x.row.isCells=false/\∃a,G.loc b g=some ⟨none,x.row.e,x.row.len,a⟩):=by
 obtain⟨hm,rfl⟩:=box?_some M;have Y:=hM.box b x hm;obtain⟨oo,V,H,J,hr⟩:=Y.loc;cases h with
 |msw _ _ cap L B hL hB hn hf=>
  rw[H]at hL;obtain rfl:=yb hL;simp only at hB;subst hB;obtain⟨W,O,K,U,N⟩:=hr;exact .inl ⟨B,V,cap,rfl,hn,H,J,hf,W,O,K,U,N⟩
 |mswNil _ _ L hL hB hn=>
  rw[H]at hL;obtain rfl:=yb hL;simp only at hB;subst hB;exact .inr ⟨rfl,hr.1,hr.2,_,H⟩
theorem L5{G:Gh}{w:World}{mem:aO}{t:TypeId}{x:AV}{k:IntKind}{i:Int}{out:dY}{cv:Value}(hM:aJ G w mem)(h:kG P t mem x i=some out)(U:VR G w x cv):
  ∃v rd,out={v,rd}/\∃W,(Instr.indexAt t cv (.int k i)).run P w= .ok W w/\VR G w v W:=by
 unfold kG at h;split at h
 ·rename_i et O;rw[bind_some]at h;obtain⟨s,hs,h⟩:=h;split at h
  ·rename_i β kk xs;rw[aA]at h;obtain⟨H,h⟩:=h;obtain rfl:=bZ.1 H;rw[bind_some]at h;obtain⟨v,hv,h⟩:=h;obtain rfl:=yb h;obtain⟨M,J,Z⟩:=E5 hv;refine⟨_,_,rfl,?_⟩;cases U with
   |imm _ _ _ hp=>
    cases hp with
    |intsNil=>simp at J
    |ints _ _ B o cap V hh=>
     refine⟨_,eP O hs M (by omega) w,?_⟩;have:=hh _ _ Z;refine .el β _ 0 B (o+i.toNat*1) (λ_=> .int kk v) (λj y K=>?_) (λj y K=>?_)
     ·cases j with
      |zero=>simpa using this
      |succ j=>simp[PV.cells]at K
     ·cases j with
      |zero=>simp[PV.cells]at K;subst K;exact .lit _ rfl
      |succ j=>simp[PV.cells]at K
  ·rename_i β e xs;rw[aA]at h;obtain⟨H,h⟩:=h;obtain rfl:=bZ.1 H;rw[bind_some]at h;obtain⟨v,hv,h⟩:=h;obtain rfl:=yb h;obtain⟨M,J,Z⟩:=E5 hv;refine⟨_,_,rfl,?_⟩;cases U with
   |imm _ _ _ hp=>
    cases hp with
    |slNil=>simp at J
    |sl _ _ B o cap cv he V hlen hh h1' hr=>
     refine⟨_,eP O hs M (by omega) w,?_⟩;exact .el β _ 0 B (o+i.toNat*s) (λj=>cv i.toNat j) (λj y K=>hh _ _ _ _ Z K) (λj y K=>hr _ _ _ _ Z K)
  ·rename_i b g o n;rw[bind_some]at h;obtain⟨bx,N,h⟩:=h;rw[aA]at h;obtain⟨hc,h⟩:=h;simp only[yc,decide_eq_true_eq]at hc;obtain⟨⟨H,M⟩,J⟩:=hc;obtain rfl:=bZ.1 H;obtain rfl:=yb h;refine⟨_,_,rfl,?_⟩;rcases hM.at_ms N U with ⟨B,a0,cap,rfl,hn,hon,Y,_⟩|⟨rfl,rfl,rfl,_⟩|⟨B,oo,rfl,_,rfl,_⟩
   ·refine⟨_,eP O hs M J w,?_⟩;have:=VR.ptr (G:=G) (w:=w) b g (o+i.toNat) 0 _ B Y rfl;simpa[yz1,yk2]using this
   ·simp at J;omega
   ·simp at J;omega
  ·rename_i b g;rw[bind_some]at h;obtain⟨bx,N,h⟩:=h;rw[aA]at h;obtain⟨hc,h⟩:=h;simp only[yc,decide_eq_true_eq]at hc;obtain⟨⟨H,M⟩,J⟩:=hc;obtain rfl:=bZ.1 H;obtain rfl:=yb h;refine⟨_,_,rfl,?_⟩;rcases hM.at_msw N U with ⟨B,a0,cap,rfl,hn,Y,_⟩|⟨rfl,hz,_⟩
   ·refine⟨_,eP O hs M J w,?_⟩;have:=VR.ptr (G:=G) (w:=w) b g i.toNat 0 _ B Y rfl;simpa using this
   ·rw[hz]at J;simp at J;omega
  ·simp at h
 ·rename_i n et O;rw[bind_some]at h;obtain⟨s,hs,h⟩:=h;split at h
  ·rename_i b g j c;rw[aA]at h;obtain⟨hc,h⟩:=h;simp only[yc,decide_eq_true_eq]at hc;obtain rfl:=yb h;refine⟨_,_,rfl,?_⟩;cases U with
   |ptr _ _ _ _ L B Y hb=>
    refine⟨_,Ei O hs hc.1 hc.2 w,?_⟩;rw[yk2,yk2];exact .ptr b g j _ L B Y hb
  ·simp at h
 ·simp at h
theorem lL{y d:Nat}{i:Option Int}{n:Nat}(h:Cg y i d=some n):(i=none/\n=d)\/(∃z,i=some z/\0≤z/\z≤(y:Int)/\n=z.toNat):=by
 cases i with
 |none=>exact .inl ⟨rfl,(yb h).symm⟩
 |some z=>
  simp only[Cg]at h;rw[aA]at h;obtain⟨hc,h⟩:=h;simp only[yc,decide_eq_true_eq]at hc;exact .inr ⟨z,rfl,hc.1,hc.2,(yb h).symm⟩
def qS(o:Option Int)(v:Option Value):Prop:=
 match o,v with
 |none,none=>True
 |some i,some v=> ∃k,v= .int k i
 |_,_=>False
theorem cT{isSlice:Bool}{len cap:Nat}{lo hi mx:Option Int}{M Z vm:Option Value}{l h:Nat}(J:jJ len lo hi mx=some (l,h))(hc:len≤cap)
  (Y:qS lo M) (hh:qS hi Z) (hm:qS mx vm) (w:World):
  ∃m,(Instr.sliceBounds isSlice len cap M Z vm).run P w= .ok (l,h,m) w/\l≤h/\h≤len/\h≤m/\m≤cap:=by
 unfold jJ at J;rw[aA]at J;obtain⟨hg,J⟩:=J;rw[bind_some]at J;obtain⟨m,h1,J⟩:=J;rw[bind_some]at J;obtain⟨h',h2,J⟩:=J;rw[bind_some]at J;obtain⟨l',h3,J⟩:=J;simp only[Option.some.injEq,Prod.mk.injEq]at J;obtain⟨rfl,rfl⟩:=J;rcases lL h1 with ⟨rfl,rfl⟩|⟨U,rfl,zm0,zm1,rfl⟩
 ·have:vm=none:=by cases vm<;>simp_all[qS]
  subst this;rcases lL h2 with ⟨rfl,rfl⟩|⟨H,rfl,K,zh1,rfl⟩
  ·have:Z=none:=by cases Z<;>simp_all[qS]
   subst this;rcases lL h3 with ⟨rfl,rfl⟩|⟨zl,rfl,N,W,rfl⟩
   ·have:M=none:=by cases M<;>simp_all[qS]
    subst this;exact⟨cap,by simp[Instr.sliceBounds],by omega,by omega,by omega,by omega⟩
   ·cases M with
    |none=>simp[qS]at Y
    |some v=>
     obtain⟨k,rfl⟩:=Y;exact⟨cap,by simp[Instr.sliceBounds,Instr.sliceBound,jM,N,W],by omega,by omega,by omega,by omega⟩
  ·cases Z with
   |none=>simp[qS]at hh
   |some v=>
    obtain⟨k,rfl⟩:=hh;have O:H≤(cap:Int):=by omega
    rcases lL h3 with ⟨rfl,rfl⟩|⟨zl,rfl,N,W,rfl⟩
    ·have:M=none:=by cases M<;>simp_all[qS]
     subst this;exact⟨cap,by simp[Instr.sliceBounds,Instr.sliceBound,jM,K,O],by omega,by omega,by omega,by omega⟩
    ·cases M with
     |none=>simp[qS]at Y
     |some v=>
      obtain⟨k,rfl⟩:=Y;have e:((H.toNat:Nat):Int)=H:=by omega
      have V:zl≤H:=by omega
      have mz: ¬(max H 0<zl):=by omega
      exact⟨cap,by simp[Instr.sliceBounds,Instr.sliceBound,jM,K,O,N,e,V,mz],by omega,by omega,by omega,by omega⟩
 ·cases vm with
  |none=>simp[qS]at hm
  |some v=>
   obtain⟨km,rfl⟩:=hm;have zm2:U≤(cap:Int):=by omega
   have em:((U.toNat:Nat):Int)=U:=by omega
   rcases lL h2 with ⟨rfl,rfl⟩|⟨H,rfl,K,zh1,rfl⟩
   ·simp at hg
   ·cases Z with
    |none=>simp[qS]at hh
    |some v=>
     obtain⟨k,rfl⟩:=hh;have O:H≤U:=by omega
     rcases lL h3 with ⟨rfl,rfl⟩|⟨zl,rfl,N,W,rfl⟩
     ·have:M=none:=by cases M<;>simp_all[qS]
      subst this;have mz: ¬(max U 0<H):=by omega
      exact⟨U.toNat,by simp[Instr.sliceBounds,Instr.sliceBound,jM,K,O,zm0,zm2,em,mz],by omega,by omega,by omega,by omega⟩
     ·cases M with
      |none=>simp[qS]at Y
      |some v=>
       obtain⟨k,rfl⟩:=Y;have e:((H.toNat:Nat):Int)=H:=by omega
       have V:zl≤H:=by omega
       have mz: ¬(max U 0<H):=by omega
       have mz2: ¬(max H 0<zl):=by omega
       have mp:H≤max U 0:=by omega
       have mp2:zl≤max H 0:=by omega
       exact⟨U.toNat,by simp[Instr.sliceBounds,Instr.sliceBound,jM,K,O,zm0,zm2,em,N,e,V,mz,mz2,mp,mp2],by omega,by omega,by omega,by omega⟩
end
end Go.Ab
end
section
namespace Go.Ab
variable [cS]
section
variable {P:Program}
def VW(G:Gh)(w:World)(P:Program)(s:Sem Value)(out:dY):Prop:=out.wr= []/\out.push= []/\∃cv,s.run P w= .ok cv w/\VR G w out.v cv
theorem bG{t H:TypeId}{s:Nat}(N:P.underlying t=some (.slice H))(hs:k8 P H=some s){a:Option Addr}{len cap:Nat}{J K M:Option Value}{l h m:Nat}{w:World}
  (O:(Instr.sliceBounds true len cap J K M).run P w= .ok (l,h,m) w):
  (Instr.sliceAt t (.slice a len cap) J K M).run P w= .ok (.slice (if m=l then a else a.map (·.add (l*s))) (h-l) (m-l)) w:=by
 simp only[Instr.sliceAt,Instr.slice,Sem.run_bind,run_underlying N,Result.andThen_ok,O,fN hs,Sem.run_pure]
theorem Fx{t:TypeId}(K:P.underlying t=some .string){s:ByteArray}{H J:Option Value}{l h m:Nat}{w:World}
  (M:(Instr.sliceBounds false s.size s.size H J none).run P w= .ok (l,h,m) w):
  (Instr.sliceAt t (.string s) H J none).run P w= .ok (.string (s.extract l h)) w:=by
 simp[Instr.sliceAt,Instr.slice,run_underlying K,M]
theorem G9{t H:TypeId}{s n B o:Nat}(N:P.underlying t=some (.array n H))(hs:k8 P H=some s){J K M:Option Value}{l h m:Nat}{w:World}
  (O:(Instr.sliceBounds false n n J K M).run P w= .ok (l,h,m) w):
  (Instr.sliceAt t (.pointer (some ⟨B,o,none⟩)) J K M).run P w= .ok (.slice (some (if m=l then⟨B,o,none⟩else⟨B,o+l*s,none⟩)) (h-l) (m-l)) w:=by
 simp only[Instr.sliceAt,Instr.sureAddr,Sem.run_bind,run_underlying N,Result.andThen_ok,O,fN hs,Sem.run_pure,dU]
theorem nY{α:Type}{xs:List α}{l h i:Nat}{x:α}(H:((xs.take h).drop l)[i]?=some x):xs[l+i]?=some x/\l+i<h:=by
 rw[yg1]at H;have J:l+i<h:=by
  rcases yq2 (l+i) h with K|K
  ·exact K
  ·rw[yc1 (by simp;omega)]at H;cases H
 exact⟨by rw[yu1 J]at H;exact H,J⟩
theorem Dd{G:Gh}{w:World}{b g o n cap l h m:Nat}{B e N a:Nat}(H:G.loc b g=some ⟨some B,e,N,a⟩)(J:Fw w B (a+(o+cap)*e))(W:o+n≤N)
  (h1:l≤h) (h2:h≤n) (h3:h≤m) (h4:m≤cap):
  VR G w (.ms b g (o+l) (h-l)) (.slice (if m=l then(some ⟨B,a+o*e,none⟩:Option Addr)else(some (⟨B,a+o*e,none⟩:Addr)).map (·.add (l*e))) (h-l) (m-l)):=by
 have hf:Fw w B (a+(o+l+(m-l))*e):=λj U=>J j (yn2 U (Nat.add_le_add_left (yr2 _ (by omega)) _));by_cases K:m=l
 ·rw[if_pos K];have V:h-l=0:=by omega
  have O:m-l=0:=by omega
  rw[V,O];by_cases M:l=0
  ·subst M;rw[O]at hf;exact .ms b g o 0 0 _ B H rfl (by omega) (by simp;omega) (by simpa using hf)
  ·exact .msZ b g (o+l) B _ _ H rfl (by omega) (by simp;omega)
 ·rw[if_neg K];simp only[yl,dU];have:=VR.ms (G:=G) (w:=w) b g (o+l) (h-l) (m-l) _ B H rfl (by omega) (by simp;omega) hf;simpa[yz1,yk2]using this
theorem Mj{G:Gh}{w:World}{mem:aO}{t:TypeId}{x:AV}{lo hi mx:Option Int}{vl vh vm:Option Value}{out:dY}{cv:Value}(hM:aJ G w mem)(h:iN P t mem x lo hi mx=some out)(J:VR G w x cv)
  (hl:qS lo vl) (hh:qS hi vh) (hm:qS mx vm):VW G w P (Instr.sliceAt t cv vl vh vm) out:=by
 unfold iN at h;split at h
 ·rename_i W;split at h
  ·rename_i s;rw[aA]at h;obtain⟨hmx,h⟩:=h;obtain⟨⟨l,M⟩,O,rfl⟩:=yf.1 h;obtain rfl:=J.lit_inv;have:mx=none:=by cases mx<;>simp_all
   subst this;have:vm=none:=by cases vm<;>simp_all[qS]
   subst this;obtain⟨m,hr,_⟩:=cT (P:=P) (isSlice:=false) O (yb1 _) hl hh hm w;exact⟨rfl,rfl,_,Fx W hr,.lit _ rfl⟩
  ·simp at h
 ·rename_i et W;rw[bind_some]at h;obtain⟨s,hs,h⟩:=h;split at h
  ·rename_i β k xs;rw[aA]at h;obtain⟨N,h⟩:=h;obtain rfl:=bZ.1 N;obtain⟨⟨l,M⟩,O,rfl⟩:=yf.1 h;cases J with
   |imm _ _ _ hp=>
    cases hp with
    |intsNil _ a=>
     obtain⟨m,hr,h1,V,Y,Z⟩:=cT (P:=P) (isSlice:=true) (cap:=0) O (by simp) hl hh hm w;refine⟨rfl,rfl,_,bG W hs (a:=a) (len:=0) (cap:=0) hr,?_⟩;simp at V;obtain rfl:l=0:=by omega
     obtain rfl:M=0:=by omega
     obtain rfl:m=0:=by omega
     exact .imm β _ _ (by simpa using PR.intsNil k _) rfl
    |ints _ _ B o cap hcap hh'=>
     obtain⟨m,hr,h1,V,Y,Z⟩:=cT (P:=P) (isSlice:=true) (cap:=cap) O hcap hl hh hm w;refine⟨rfl,rfl,_,bG W hs hr,.imm β _ _ ?_ rfl⟩;have K:((xs.take M).drop l).length=M-l:=by simp;omega
     by_cases hml:m=l
     ·have:(xs.take M).drop l= []:=yu (by omega);rw[if_pos hml,this,show M-l=([]:List Int).length by simp;omega];exact .ints k [] B o _ (by simp) (λi x J=>by simp at J)
     ·rw[if_neg hml,<-K];simp only[yl,dU,yt3];refine .ints k _ B (o+l) _ (by rw[K];omega) (λi x J=>?_);obtain⟨J,_⟩:=nY J;rw[yk2];exact hh' _ _ J
  ·rename_i β e xs;rw[aA]at h;obtain⟨N,h⟩:=h;obtain rfl:=bZ.1 N;obtain⟨⟨l,M⟩,O,rfl⟩:=yf.1 h;cases J with
   |imm _ _ _ hp=>
    cases hp with
    |slNil _ a=>
     obtain⟨m,hr,h1,V,Y,Z⟩:=cT (P:=P) (isSlice:=true) (cap:=0) O (by simp) hl hh hm w;refine⟨rfl,rfl,_,bG W hs (a:=a) (len:=0) (cap:=0) hr,?_⟩;simp at V;obtain rfl:l=0:=by omega
     obtain rfl:M=0:=by omega
     obtain rfl:m=0:=by omega
     exact .imm β _ _ (by simpa using PR.slNil s _) rfl
    |sl _ _ B o cap cv he hcap hlen0 hh' h1' hr'=>
     obtain⟨m,hr,h1,V,Y,Z⟩:=cT (P:=P) (isSlice:=true) (cap:=cap) O hcap hl hh hm w;refine⟨rfl,rfl,_,bG W hs hr,.imm β _ _ ?_ rfl⟩;have K:((xs.take M).drop l).length=M-l:=by simp;omega
     by_cases hml:m=l
     ·have:(xs.take M).drop l= []:=yu (by omega);rw[if_pos hml,this,show M-l=([]:List PV).length by simp;omega];exact .sl s [] B o _ cv he (by simp) (λx J=>by simp at J) (λi x c y J=>by simp at J) (λi x c y J=>by simp at J) (λi x c y J=>by simp at J)
     ·rw[if_neg hml,<-K];simp only[yl,dU];refine .sl s _ B (o+l*s) _ (λi c=>cv (l+i) c) he (by rw[K];omega) (λx J=>hlen0 x (yk3 (List.mem_of_mem_drop J))) (λi x c y J hy=>?_) (λi x c y J hy=>h1' _ _ _ _ (nY J).1 hy) (λi x c y J hy=>?_)
      ·obtain⟨J,_⟩:=nY J;have:=hh' _ _ _ _ J hy;rw[show o+l*s+i*s+c=o+(l+i)*s+c by rw[yz1];omega];exact this
      ·obtain⟨J,_⟩:=nY J;exact hr' _ _ _ _ J hy
  ·rename_i b g o n;rw[bind_some]at h;obtain⟨bx,hbx,h⟩:=h;rw[aA]at h;obtain⟨N,h⟩:=h;obtain rfl:=bZ.1 N;obtain⟨⟨l,M⟩,O,rfl⟩:=yf.1 h;rcases hM.at_ms hbx J with ⟨B,a0,cap,rfl,hn,hon,H,_,U,_⟩|⟨rfl,rfl,rfl,hz,_,H⟩|⟨B,oo,rfl,ho,rfl,hon,_,H⟩
   ·obtain⟨m,hr,h1,V,Y,Z⟩:=cT (P:=P) (isSlice:=true) (cap:=cap) O hn hl hh hm w;exact⟨rfl,rfl,_,bG W hs hr,Dd H U hon h1 V Y Z⟩
   ·obtain⟨m,hr,h1,V,Y,Z⟩:=cT (P:=P) (isSlice:=true) (cap:=0) O (by simp) hl hh hm w;refine⟨rfl,rfl,_,bG W hs (a:=none) hr,?_⟩;obtain rfl:l=0:=by omega
    obtain rfl:M=0:=by omega
    obtain rfl:m=0:=by omega
    exact .msNil b g _ H rfl
   ·obtain⟨m,hr,h1,V,Y,Z⟩:=cT (P:=P) (isSlice:=true) (cap:=0) O (by simp) hl hh hm w;refine⟨rfl,rfl,_,bG W hs hr,?_⟩;obtain rfl:l=0:=by omega
    obtain rfl:M=0:=by omega
    obtain rfl:m=0:=by omega
    exact .msZ b g o B oo _ H rfl ho hon
  ·rename_i b g;rw[bind_some]at h;obtain⟨bx,hbx,h⟩:=h;rw[aA]at h;obtain⟨N,h⟩:=h;obtain rfl:=bZ.1 N;obtain⟨⟨l,M⟩,O,rfl⟩:=yf.1 h;rcases hM.at_msw hbx J with ⟨B,a0,cap,rfl,hn,H,_,U,_⟩|⟨rfl,hz,_,_,H⟩
   ·obtain⟨m,hr,h1,V,Y,Z⟩:=cT (P:=P) (isSlice:=true) (cap:=cap) O hn hl hh hm w;have:=Dd (o:=0) (n:=bx.row.len) H (by simpa using U) (by simp) h1 V Y Z;exact⟨rfl,rfl,_,bG W hs hr,by simpa using this⟩
   ·rw[hz]at O;obtain⟨m,hr,h1,V,Y,Z⟩:=cT (P:=P) (isSlice:=true) (cap:=0) O (by simp) hl hh hm w;refine⟨rfl,rfl,_,bG W hs (a:=none) hr,?_⟩;obtain rfl:l=0:=by omega
    obtain rfl:M=0:=by omega
    obtain rfl:m=0:=by omega
    exact .msNil b g _ H rfl
  ·obtain⟨⟨l,M⟩,O,rfl⟩:=yf.1 h;obtain rfl:=J.lit_inv;obtain⟨m,hr,h1,V,Y,Z⟩:=cT (P:=P) (isSlice:=true) (cap:=0) O (by simp) hl hh hm w;refine⟨rfl,rfl,_,bG W hs (a:=none) hr,?_⟩;obtain rfl:l=0:=by omega
   obtain rfl:M=0:=by omega
   obtain rfl:m=0:=by omega
   exact .lit _ rfl
  ·simp at h
 ·rename_i n et W;rw[bind_some]at h;obtain⟨s,hs,h⟩:=h;split at h
  ·rename_i b g c;rw[aA]at h;obtain⟨N,h⟩:=h;obtain rfl:=bZ.1 N;rw[bind_some]at h;obtain⟨bx,hbx,h⟩:=h;obtain⟨B,a0,rfl,H,ha0,hmine,hB,hfz,hrow,hpr⟩:=hM.at_ptr hbx J;obtain⟨gen,frz,row⟩:=bx;split at h
   ·rename_i cs hrw;simp only at hrw;subst hrw;obtain rfl:=ha0 rfl;rw[aA]at h;obtain⟨hle,h⟩:=h;have hle:=dA.1 hle;obtain⟨⟨l,M⟩,O,rfl⟩:=yf.1 h;obtain⟨m,hr,h1,V,Y,Z⟩:=cT (P:=P) (isSlice:=false) (cap:=n) O (yb1 _) hl hh hm w;have U:Fw w B ((c+n)*1):=λj hj=>by
     obtain⟨v,hv,_⟩:=hrow.2 j (cs[j]'(by omega)) (ye _);rw[hv];rfl
    have K:(bC.cells 1 cs).len=cs.length:=rfl;have:=Dd (o:=c) (n:=n) H (by rw[ye1];exact U) (by rw[K];exact hle) h1 V Y Z;refine⟨rfl,rfl,_,G9 W hs hr,?_⟩;simp only[bC.e,yt3,ys3,ye1,dU,yl]at this⊢
    split
    ·rename_i e;simpa[e]using this
    ·rename_i e;simpa[e]using this
   ·simp at h
  ·simp at h
 ·simp at h
end
end Go.Ab
end
section
namespace Go.Ab
variable [cS]
section
variable {P:Program}
theorem Oo{G:Gh}{w:World}{mem:aO}{t ty:TypeId}{x:AV}{n:Nat×List Nat}{cv:Value}(hM:aJ G w mem)(h:lenOf P t mem x=some n)(J:VR G w x cv):
  (Builtin.len_ #[t] ty #[cv]).run P w= .ok (.int .i64 (n.1:Int)) w:=by
 unfold lenOf at h;split at h
 ·rename_i K;split at h
  ·obtain rfl:=yb h;obtain rfl:=J.lit_inv;simp[Builtin.len_,run_underlying K,goInt]
  ·simp at h
 ·rename_i et K;have H: ∀(a:Option Addr) (l c:Nat),(Builtin.len_ #[t] ty #[.slice a l c]).run P w= .ok (.int .i64 (l:Int)) w:=by
   intro a l c;simp[Builtin.len_,run_underlying K,goInt]
  split at h
  ·obtain rfl:=yb h;cases J with|imm _ _ _ N=>cases N<;>exact H _ _ _
  ·obtain rfl:=yb h;cases J with|imm _ _ _ N=>cases N<;>exact H _ _ _
  ·obtain rfl:=yb h;cases J<;>exact H _ _ _
  ·obtain⟨bx,M,rfl⟩:=yf.1 h;rcases hM.at_msw M J with ⟨B,a0,cap,rfl,_⟩|⟨rfl,O,_⟩
   ·exact H _ _ _
   ·rw[H];simp[O]
  ·obtain rfl:=yb h;obtain rfl:=J.lit_inv;exact H _ _ _
  ·simp at h
 ·simp at h
theorem zF{G:Gh}{w:World}{f:Int->Int->Int}{k:IntKind}{op:Value->Value->Sem Value}(M: ∀a b,(op (.int k a) (.int k b))=pure (.int k (f a b))):
  ∀{xs:List AV} {vs:List Value} {a r:Int},oL f k xs a=some r->(xs.length=vs.length/\∀(j:Nat) (y:AV),xs[j]?=some y->VR G w y (vs.getD j undef))->
   (vs.foldlM op (.int k a)).run P w= .ok (.int k r) w:=by
 intro xs
 induction xs with
 |nil=>
  intro vs a r h H;simp[oL]at h;subst h;have:=yu H.1.symm;subst this;rfl
 |cons x xs V=>
  intro vs a r h H;cases vs with
  |nil=>simp at H
  |cons v vs=>
   have N:=H.2 0 x rfl;simp only[List.getD_cons_zero]at N;have K:xs.length=vs.length/\∀(j:Nat) (y:AV),xs[j]?=some y->VR G w y (vs.getD j undef):=⟨by simpa using H.1,λj y U=>by simpa using H.2 (j+1) y (by simpa using U)⟩
   unfold oL at h;split at h
   ·simp_all
   ·rename_i k' b r' a' J;simp only[List.cons.injEq]at J;obtain⟨rfl,rfl⟩:=J;rw[aA]at h;obtain⟨O,h⟩:=h;rw[l6]at O;subst O;obtain rfl:=N.lit_inv;rw[List.foldlM_cons,M];simp only[Sem.run_bind,Sem.run_pure,Result.andThen_ok];exact V h K
   ·simp at h
theorem fA(C:Array Value)(j:Nat):C.toList.getD j undef=C.getD j undef:=by
 simp[ym,yo]
theorem BH{s:TypeId}{f:Nat}{q:Nat×Nat×TypeId}(h:oJ P s f=some q):
  ∃fs x,P.underlying s=some (.struct fs)/\fs[f]?=some x/\x.offset=q.1/\k8 P x.type=some q.2.1/\x.type=q.2.2/\1≤q.2.1:=by
 unfold oJ at h;split at h
 ·rename_i fs H;rw[bind_some]at h;obtain⟨x,K,h⟩:=h;rw[bind_some]at h;obtain⟨n,hn,h⟩:=h;rw[aA]at h;obtain⟨J,h⟩:=h;obtain rfl:=yb h;exact⟨fs,x,H,K,rfl,hn,rfl,dA.1 J⟩
 ·simp at h
theorem GO{s:TypeId}{f:Nat}{q:Nat×Nat×TypeId}(h:oJ P s f=some q)(B o:Nat)(w:World):
  (Instr.fieldAt s (.pointer (some ⟨B,o,none⟩)) f).run P w= .ok (.pointer (some ⟨B,o+q.1,none⟩)) w:=by
 obtain⟨fs,x,J,K,M,hn,ht,h1⟩:=BH h;have H: ¬(q.2.1=0):=by omega
 simp only[Instr.fieldAt,Sem.run_bind,run_underlying J,Result.andThen_ok,K,Instr.sureAddr,Sem.run_pure,fieldPlace,fN hn,H,if_false,dU,M]
theorem N1{t:TypeId}{n:Nat}{ag:Bool}(H:isAgg? P t=some ag)(hn:k8 P t=some n){cs:Array Value}{o:Nat}(w:World)(J:ag=true\/o<cs.size):
  (part t cs o).run P w= .ok (if ag=true then .agg (cs.extract o (o+n))else cs.getD o undef) w:=by
 cases ag with
 |true=>simp only[part,Sem.run_bind,AN H,Result.andThen_ok,if_true,fN hn,Sem.run_pure]
 |false=>
  have K:o<cs.size:=by rcases J with h|h;cases h;exact h
  simp only[part,Sem.run_bind,AN H,Result.andThen_ok,yt2,if_false,yg2 K,Sem.run_pure,yo,Option.getD_some]
theorem LZ{G:Gh}{w:World}{s:TypeId}{f:Nat}{q:Nat×Nat×TypeId}{cs:List AV}{cv:Value}{ag:Bool}{v:AV}(h:oJ P s f=some q)(M:isAgg? P q.2.2=some ag)
  (Z:VR G w (.agg cs) cv) (J:(bif ag then guardB (Nat.ble (q.1+q.2.1) cs.length) (some (AV.agg ((cs.drop q.1).take q.2.1)))else cs[q.1]?)=some v):
  ∃N,(Instr.field s cv f).run P w= .ok N w/\VR G w v N:=by
 obtain⟨fs,x,hu,O,ho,hn,ht,h1⟩:=BH h;obtain⟨cvs,rfl,W,hc⟩:=Z.agg_inv;rw[<-ht]at M;have K: ∀(H:ag=true\/q.1<cvs.size),(Instr.field s (.agg cvs) f).run P w= .ok (if ag=true then .agg (cvs.extract q.1 (q.1+q.2.1))else cvs.getD q.1 undef) w:=by
  intro H;have:=N1 (P:=P) M hn (cs:=cvs) (o:=q.1) w H;simp only[Instr.field,Sem.run_bind,run_underlying hu,Result.andThen_ok,O,asAgg,Sem.run_pure,ho,this]
 cases ag with
 |true=>
  simp only[yh]at J;rw[aA]at J;obtain⟨H,J⟩:=J;have H:=dA.1 H;obtain rfl:=yb J;refine⟨_,K (.inl rfl),?_⟩;rw[if_pos rfl];refine .agg _ _ (by simp;omega) λj y U=>?_;have Y:j<q.2.1:=by have:=(yd.1 U).1;simp at this;omega
  rw[yu1 Y,yg1]at U;have:=hc _ y U;have V:q.1+j<cvs.size:=by omega
  simp only[yo]at this⊢
  rw[Array.getElem?_extract];rw[if_pos (by omega)];exact this
 |false=>
  simp only[yg]at J;have V:=(yd.1 J).1;exact⟨_,K (.inr (by omega)),by simpa using hc _ v J⟩
theorem K3{ρ:Operand->Option AV}: ∀{xs:List Operand} {vs:List AV},qT ρ xs=some vs->vs.length=xs.length/\∀(j:Nat) (y:AV),vs[j]?=some y->∃x,xs[j]?=some x/\ρ x=some y
 | [],vs,h=>by simp[qT]at h;subst h;exact⟨rfl,λj y H=>by simp at H⟩
 |x::r,vs,h=>by
  simp only[qT]at h;rw[bind_some]at h;obtain⟨v,O,h⟩:=h;obtain⟨K,J,rfl⟩:=yf.1 h;obtain⟨M,N⟩:=K3 J;refine⟨by simp[M],λj y H=>?_⟩;cases j with
  |zero=>simp at H;subst H;exact⟨x,rfl,O⟩
  |succ j=>simpa using N j y (by simpa using H)
theorem D6{G:Gh}{w:World}{ρ:Operand->Option AV}{a:Act}(K:TX G w ρ a){xs:Array Operand}{vs:List AV}(h:qT ρ xs.toList=some vs):rZ G w vs (xs.map a.eval):=by
 obtain⟨M,O⟩:=K3 h;refine⟨by simpa using M,λj y J=>?_⟩;obtain⟨x,N,U⟩:=O j y J;have H:xs[j]?=some x:=by simpa using N
 have hj:=(yf3.1 H).1;have:=K x y U;simp only[yo,Array.getElem?_map,H,yl,Option.getD_some];exact this
theorem GA{ρ:Operand->Option AV}: ∀{xs:List (Nat×Operand)} {vs:List (Nat×AV)},m8 ρ xs=some vs->
  vs.length=xs.length/\∀(j:Nat) (q:Nat×AV),vs[j]?=some q->∃x,xs[j]?=some (q.1,x)/\ρ x=some q.2
 | [],vs,h=>by simp[m8]at h;subst h;exact⟨rfl,λj y K=>by simp at K⟩
 |(i,x)::r,vs,h=>by
  simp only[m8]at h;rw[bind_some]at h;obtain⟨v,U,h⟩:=h;obtain⟨M,H,rfl⟩:=yf.1 h;obtain⟨N,O⟩:=GA H;refine⟨by simp[N],λj q J=>?_⟩;cases j with
  |zero=>simp at J;subst J;exact⟨x,rfl,U⟩
  |succ j=>simpa using O j q (by simpa using J)
def kI(G:Gh)(w:World)(as:List AV)(vs:List Value):Prop:=as.length=vs.length/\∀(j:Nat) (y:AV),as[j]?=some y->VR G w y (vs.getD j undef)
def Wq(G:Gh)(w:World)(ps:List (Nat×AV))(qs:List (Nat×Value)):Prop:=ps.length=qs.length/\∀(j:Nat) (p:Nat×AV),ps[j]?=some p->∃v,qs[j]?=some (p.1,v)/\VR G w p.2 v
theorem BT{G:Gh}{w:World}{ρ:Operand->Option AV}{a:Act}(J:TX G w ρ a){xs:Array (Nat×Operand)}{vs:List (Nat×AV)}(h:m8 ρ xs.toList=some vs):
  Wq G w vs (xs.map λ(i,x)=>(i,a.eval x)).toList:=by
 obtain⟨M,O⟩:=GA h;refine⟨by simpa using M,λj q K=>?_⟩;obtain⟨x,N,U⟩:=O j q K;refine⟨a.eval x,?_,J x _ U⟩;have H:xs[j]?=some (q.1,x):=by simpa using N
 simp[H]
theorem kI.set{G:Gh}{w:World}{as:List AV}{vs:List Value}(h:kI G w as vs){i:Nat}{a:AV}{v:Value}(K:VR G w a v):kI G w (as.set i a) (vs.set i v):=by
 refine⟨by simp[h.1],λj y H=>?_⟩;by_cases e:j=i
 ·subst e;have J:j<as.length:=by have:=(yd.1 H).1;simpa using this
  rw[yt J]at H;simp at H;subst H;rw[ym,yt (by rw[<-h.1];exact J)];exact K
 ·rw[yp (λx=>e x.symm)]at H;rw[ym,yp (λx=>e x.symm),<-ym];exact h.2 j y H
def bN:List Value->Nat->List Value->List Value
 |cs,_,[]=>cs
 |cs,i,v::r=>bN (cs.set i v) (i+1) r
theorem kI.setCells{G:Gh}{w:World}: ∀{xs:List AV} {J:List Value} {as:List AV} {vs:List Value} {i:Nat},kI G w as vs->kI G w xs J->kI G w (setCells as i xs) (bN vs i J)
 | [],J,as,vs,i,h,H=>by
  have:=yu H.1.symm;subst this;exact h
 |x::xs,[],as,vs,i,h,H=>by simp[kI]at H
 |x::xs,y::J,as,vs,i,h,H=>by
  have K:=H.2 0 x rfl;simp only[List.getD_cons_zero]at K;simp only[Go.Ab.setCells,bN];exact kI.setCells (h.set K) ⟨by simpa using H.1,λj z M=>by simpa using H.2 (j+1) z (by simpa using M)⟩
theorem oP{as:List AV}: ∀{xs:List AV} {i:Nat} {as:List AV},(setCells as i xs).length=as.length
 | [],i,as=>rfl
 |x::xs,i,as=>by rw[Go.Ab.setCells,oP (as:=as)];simp
theorem kE: ∀{xs:List Value} {i:Nat} {as:List Value},(bN as i xs).length=as.length
 | [],i,as=>rfl
 |x::xs,i,as=>by rw[bN,kE];simp
theorem Fi: ∀(vs:List Value) (off n:Nat) (cs:Array Value),((vs.zipIdx n).foldl (λcs (c,j)=>cs.setIfInBounds (off+j) c) cs).toList=bN cs.toList (off+n) vs
 | [],off,n,cs=>rfl
 |v::vs,off,n,cs=>by
  simp only[List.zipIdx_cons,List.foldl_cons,bN];rw[Fi vs off (n+1)];simp[yk2]
theorem kI.one{G:Gh}{w:World}{a:AV}{v:Value}(h:VR G w a v):kI G w [a] [v]:=
 ⟨rfl,λj y H=>by cases j with|zero=>simp at H;subst H;exact h|succ j=>simp at H⟩
theorem VR.cells{G:Gh}{w:World}{a:AV}{v:Value}(h:VR G w a v):kI G w a.cells v.cells.toList:=by
 cases h with
 |agg cs cvs J h=>exact⟨by simpa[AV.cells,Value.cells]using J,λj y Z=>by simp only[Value.cells];rw[fA];exact h j y (by simpa[AV.cells]using Z)⟩
 |lit v U=>
  have:v.cells= #[v]:=by cases v<;>first|rfl|simp[oQ]at U
  rw[this];exact kI.one (.lit v U)
 |imm β p v h hs=>
  have:v.cells= #[v]:=by cases h<;>first|rfl|simp[PV.isSl]at hs
  rw[this];exact kI.one (.imm β p v h hs)
 |unkB b=>exact kI.one (.unkB b)
 |dead v O N=>
  have:v.cells= #[v]:=by cases v<;>first|rfl|simp[oQ]at N
  rw[this];exact kI.one (.dead v O N)
 |ptr b g i c L B K H=>exact kI.one (.ptr b g i c L B K H)
 |ms b g o n cap L B K H hn M hf=>exact kI.one (.ms b g o n cap L B K H hn M hf)
 |msNil b g L K H=>exact kI.one (.msNil b g L K H)
 |msZ b g o B W L K H ho M=>exact kI.one (.msZ b g o B W L K H ho M)
 |msw b g cap L B K H hn hf=>exact kI.one (.msw b g cap L B K H hn hf)
 |mswNil b g L K H hn=>exact kI.one (.mswNil b g L K H hn)
 |el β p c B o cv h hr=>exact kI.one (.el β p c B o cv h hr)
 |fn f Y V fv cv O N hf hc=>exact kI.one (.fn f Y V fv cv O N hf hc)
 |tup cs cvs J h=>exact kI.one (.tup cs cvs J h)
theorem Ck{G:Gh}{w:World}{J:Nat->Option (Nat×Nat)}: ∀{ps:List (Nat×AV)} {qs:List (Nat×Value)} {cs K:List AV} {cvs:Array Value},GW J cs ps=some K->kI G w cs cvs.toList->Wq G w ps qs->
  ∃H,Instr.fill J cvs qs=some H/\kI G w K H.toList
 | [],qs,cs,K,cvs,h,hc,N=>by
  have:=yu N.1.symm;subst this;simp[GW]at h;subst h;exact⟨cvs,rfl,hc⟩
 |(i,v)::r,[],cs,K,cvs,h,hc,N=>by simp[Wq]at N
 |(i,v)::r,(i',u)::qs,cs,K,cvs,h,hc,N=>by
  obtain⟨u',Z,hv⟩:=N.2 0 (i,v) rfl;simp only[yj3,Option.some.injEq,Prod.mk.injEq]at Z;obtain⟨rfl,rfl⟩:=Z;simp only[GW]at h;rw[bind_some]at h;obtain⟨q,hq,h⟩:=h;rw[aA]at h;obtain⟨M,h⟩:=h;simp only[yc]at M;have h1:=bZ.1 M.1;have h2:=dA.1 M.2;have U:=hv.cells;have W:u.cells.size=q.2:=by rw[<-h1];simpa using U.1.symm
  have hcz:cs.length=cvs.size:=by simpa using hc.1
  have O:(u.cells.zipIdx.foldl (λcs (c,j)=>cs.setIfInBounds (q.1+j) c) cvs).toList=bN cvs.toList q.1 u.cells.toList:=by
   have:=Fi u.cells.toList q.1 0 cvs;rw[ya2]at this;rw[<-this,<-Array.foldl_toList];simp
  obtain⟨H,hf,Y⟩:=Ck (cvs:=u.cells.zipIdx.foldl (λcs (c,j)=>cs.setIfInBounds (q.1+j) c) cvs) h (by rw[O];exact hc.setCells U)
   ⟨by simpa using N.1,λj p V=>by simpa using N.2 (j+1) p (by simpa using V)⟩
  refine⟨H,?_,Y⟩;simp only[Instr.fill,hq];rw[if_neg (by simp[W];omega)];exact hf
theorem Ir: ∀{fs:List Field} {ps:List (Nat×Nat)},places? P fs=some ps->∀w:World,(fs.mapM λf=>(do pure (f.offset,<-sizeOf f.type):Sem (Nat×Nat))).run P w= .ok ps w
 | [],ps,h,w=>by simp[places?]at h;subst h;rfl
 |f::r,ps,h,w=>by
  simp only[places?]at h;rw[bind_some]at h;obtain⟨n,hn,h⟩:=h;obtain⟨K,H,rfl⟩:=yf.1 h;have J:=Ir H w;simp only[List.mapM_cons,Sem.run_bind,fN hn,Result.andThen_ok,Sem.run_pure,J]
theorem Rd{G:Gh}{w:World}: ∀{vs:List Value} {as:List AV},Mm vs=some as->kI G w as vs
 | [],as,h=>by simp[Mm]at h;subst h;exact⟨rfl,λj y H=>by simp at H⟩
 |v::r,as,h=>by
  simp only[Mm]at h;rw[aA]at h;obtain⟨N,h⟩:=h;obtain⟨M,J,rfl⟩:=yf.1 h;have K:=Rd (G:=G) (w:=w) J
  exact⟨by simp[K.1],λj y H=>by
   cases j with
   |zero=>simp at H;subst H;exact .lit v N
   |succ j=>simpa using K.2 j y (by simpa using H)⟩
theorem oG{G:Gh}{w:World}{v:Value}{a:AV}(h:BM v=some a):VR G w a v:=by
 unfold BM at h;split at h
 ·rename_i cs;obtain⟨as,J,rfl⟩:=yf.1 h;have:=Rd (G:=G) (w:=w) J;exact .agg as cs (by simpa using this.1) (λj y K=>by rw[<-fA];exact this.2 j y K)
 ·rename_i H;obtain rfl:=yb h;exact .lit v (by cases v<;>first|rfl|exact absurd rfl (H _))
theorem mW{t:TypeId}{z:AV}(h:zero? P t=some z): ∃i v,P.info? t=some i/\i.zero=some v/\BM v=some z:=by
 unfold zero? at h;rw[bind_some]at h;obtain⟨v,H,h⟩:=h;rw[bind_some]at H;obtain⟨i,J,H⟩:=H;exact⟨i,v,J,H,h⟩
theorem N5{t:TypeId}{z:AV}(h:zero? P t=some z)(G:Gh)(w:World): ∃v,(zeroValue t).run P w= .ok v w/\VR G w z v/\(∀H,(zeroValue t).run P H= .ok v H)/\BM v=some z:=by
 obtain⟨i,v,K,M,J⟩:=mW h;exact⟨v,by simp[zeroValue,typeInfo,K,M],oG J,λH=>by simp[zeroValue,typeInfo,K,M],J⟩
theorem Lz{G:Gh}{w:World}{t:TypeId}{ps:List (Nat×AV)}{qs:Array (Nat×Value)}{v:AV}(h:FF P t ps=some v)(Y:Wq G w ps qs.toList):
  ∃cv,(Instr.build t qs).run P w= .ok cv w/\VR G w v cv:=by
 unfold FF at h;rw[bind_some]at h;obtain⟨z,Z,h⟩:=h;obtain⟨zv,K,J,_⟩:=N5 Z G w;split at h
 ·rename_i fs O;rw[bind_some]at h;obtain⟨W,V,h⟩:=h;obtain⟨cs,H,rfl⟩:=yf.1 h;obtain⟨cvs,hf,hc⟩:=Ck H J.cells Y;refine⟨.agg cvs,?_,.agg cs cvs (by simpa using hc.1) (λj y N=>by rw[<-fA];exact hc.2 j y N)⟩;have U:(fs.mapM λf=>(do pure (f.offset,<-sizeOf f.type):Sem (Nat×Nat))).run P w= .ok W.toArray w:=by
   rw[Array.mapM_eq_mapM_toList,Sem.run_map,Ir V w];rfl
  have M:Instr.fill (λi=>W.toArray[i]?) zv.cells qs.toList=some cvs:=by rw[<-hf];congr 1;funext i;simp
  simp only[Instr.build,Sem.run_bind,K,Result.andThen_ok,run_underlying O,U,M,Sem.run_pure]
 ·rename_i n e O;rw[bind_some]at h;obtain⟨s,hs,h⟩:=h;obtain⟨cs,H,rfl⟩:=yf.1 h;obtain⟨cvs,hf,hc⟩:=Ck H J.cells Y;refine⟨.agg cvs,?_,.agg cs cvs (by simpa using hc.1) (λj y N=>by rw[<-fA];exact hc.2 j y N)⟩;simp only[Instr.build,Sem.run_bind,K,Result.andThen_ok,run_underlying O,fN hs,hf,Sem.run_pure]
 ·simp at h
end
end Go.Ab
end
