/- The evaluator. -/
import Derived.Orders
import Derived.Laws.Sem
import Derived.WalkKit
import Derived.Deep.AppendSrc
set_option linter.unusedVariables false
set_option linter.unusedSectionVars false
set_option linter.unusedSimpArgs false
section
namespace Go.Ab
theorem ya:type_of% @Option.some.inj:= @Option.some.inj
theorem yb:type_of% @Option.bind_some:= @Option.bind_some
theorem yc:type_of% @Bool.and_eq_true:= @Bool.and_eq_true
theorem yd:type_of% @List.getElem?_eq_some_iff:= @List.getElem?_eq_some_iff
theorem ye:type_of% @Option.map_eq_some_iff:= @Option.map_eq_some_iff
theorem yf:type_of% @List.getElem?_eq_getElem:= @List.getElem?_eq_getElem
theorem yg:type_of% @cond_true:= @cond_true
theorem yh:type_of% @cond_false:= @cond_false
theorem yi:type_of% @List.length_append:= @List.length_append
theorem yj:type_of% @List.mem_cons_of_mem:= @List.mem_cons_of_mem
theorem yk:type_of% @List.mem_of_getElem?:= @List.mem_of_getElem?
theorem yl:type_of% @Option.map_some:= @Option.map_some
theorem ym:type_of% @List.getD_eq_getElem?_getD:= @List.getD_eq_getElem?_getD
theorem yn:type_of% @List.mem_cons_self:= @List.mem_cons_self
theorem yo:type_of% @List.getElem?_set_ne:= @List.getElem?_set_ne
theorem yp:type_of% @Array.getD_eq_getD_getElem?:= @Array.getD_eq_getD_getElem?
theorem yq:type_of% @List.getElem?_append_left:= @List.getElem?_append_left
theorem yt:type_of% @List.getElem?_set_self:= @List.getElem?_set_self
theorem yu:type_of% @List.eq_nil_of_length_eq_zero:= @List.eq_nil_of_length_eq_zero
theorem yw:type_of% @Bool.not_eq_true':= @Bool.not_eq_true'
theorem yx:type_of% @List.getElem?_append_right:= @List.getElem?_append_right
theorem yy:type_of% @Int.toNat_natCast:= @Int.toNat_natCast
theorem yz:type_of% @List.length_cons:= @List.length_cons
theorem ya1:type_of% @Nat.le_refl:= @Nat.le_refl
theorem yb1:type_of% @List.cons.inj:= @List.cons.inj
theorem yc1:type_of% @Nat.zero_add:= @Nat.zero_add
theorem yd1:type_of% @List.getElem?_eq_none:= @List.getElem?_eq_none
theorem ye1:type_of% @List.getElem?_drop:= @List.getElem?_drop
theorem yf1:type_of% @List.all_eq_true:= @List.all_eq_true
theorem yg1:type_of% @List.getElem?_map:= @List.getElem?_map
theorem yh1:type_of% @List.mem_singleton:= @List.mem_singleton
theorem yi1:type_of% @Bool.and_self:= @Bool.and_self
theorem yj1:type_of% @List.mem_cons:= @List.mem_cons
theorem yk1:type_of% @List.length_map:= @List.length_map
theorem yl1:type_of% @List.length_singleton:= @List.length_singleton
theorem ym1:type_of% @List.getElem?_cons_succ:= @List.getElem?_cons_succ
theorem yn1:type_of% @List.mem_append:= @List.mem_append
theorem yo1:type_of% @List.append_nil:= @List.append_nil
theorem yp1:type_of% @List.getElem?_take_of_lt:= @List.getElem?_take_of_lt
theorem yq1:type_of% @Array.getElem?_toList:= @Array.getElem?_toList
theorem yr1:type_of% @Nat.ble_eq_true_of_le:= @Nat.ble_eq_true_of_le
theorem ys1:type_of% @List.getElem?_take:= @List.getElem?_take
theorem yt1:type_of% @Nat.add_mul:= @Nat.add_mul
theorem yu1:type_of% @List.getElem?_replicate:= @List.getElem?_replicate
theorem yw1:type_of% @Nat.add_zero:= @Nat.add_zero
theorem yx1:type_of% @List.getElem_of_mem:= @List.getElem_of_mem
theorem yy1:type_of% @Option.bind_eq_some_iff:= @Option.bind_eq_some_iff
theorem yz1:type_of% @List.mem_append_left:= @List.mem_append_left
theorem ya2:type_of% @List.mem_append_right:= @List.mem_append_right
theorem yb2:type_of% @Array.getElem?_eq_getElem:= @Array.getElem?_eq_getElem
theorem yc2:type_of% @Bool.or_eq_true:= @Bool.or_eq_true
theorem yd2:type_of% @Array.length_toList:= @Array.length_toList
theorem ye2:type_of% @Nat.add_assoc:= @Nat.add_assoc
theorem yf2:type_of% @Bool.not_true:= @Bool.not_true
theorem yg2:type_of% @List.map_cons:= @List.map_cons
theorem yh2:type_of% @List.take_of_length_le:= @List.take_of_length_le
theorem yi2:type_of% @List.mem_or_eq_of_mem_set:= @List.mem_or_eq_of_mem_set
theorem yj2:type_of% @Nat.lt_of_lt_of_le:= @Nat.lt_of_lt_of_le
theorem yk2:type_of% @List.getElem_mem:= @List.getElem_mem
theorem yl2:type_of% @Nat.lt_or_ge:= @Nat.lt_or_ge
theorem ym2:type_of% @Nat.mul_le_mul_right:= @Nat.mul_le_mul_right
theorem yn2:type_of% @List.length_take:= @List.length_take
theorem yo2:type_of% @Bool.true_and:= @Bool.true_and
theorem yp2:type_of% @List.drop_zero:= @List.drop_zero
theorem yq2:type_of% @Nat.le_trans:= @Nat.le_trans
theorem yr2:type_of% @Bool.false_eq_true:= @Bool.false_eq_true
theorem yt2:type_of% @List.length_set:= @List.length_set
theorem yu2:type_of% @List.length_eq_one_iff:= @List.length_eq_one_iff
theorem yv2:type_of% @Array.toArray_toList:= @Array.toArray_toList
theorem yw2:type_of% @List.mem_replicate:= @List.mem_replicate
theorem yx2:type_of% @Nat.mul_comm:= @Nat.mul_comm
theorem yy2:type_of% @Nat.lt_succ_self:= @Nat.lt_succ_self
theorem yz2:type_of% @List.length_nil:= @List.length_nil
theorem ya3:type_of% @List.append_assoc:= @List.append_assoc
theorem yb3:type_of% @Array.getElem?_eq_some_iff:= @Array.getElem?_eq_some_iff
theorem yc3:type_of% @Bool.not_false:= @Bool.not_false
theorem yd3:type_of% @List.getElem_append_right:= @List.getElem_append_right
theorem ye3:type_of% @List.getElem?_cons_zero:= @List.getElem?_cons_zero
theorem yf3:type_of% @List.mem_of_mem_take:= @List.mem_of_mem_take
theorem yg3:type_of% @Nat.beq_refl:= @Nat.beq_refl
theorem yh3:type_of% @List.mem_map:= @List.mem_map
theorem yi3:type_of% @Array.getElem?_append_left:= @Array.getElem?_append_left
theorem yj3:type_of% @List.length_replicate:= @List.length_replicate
theorem yk3:type_of% @List.cons_append:= @List.cons_append
theorem yl3:type_of% @List.map_take:= @List.map_take
theorem ym3:type_of% @List.all_cons:= @List.all_cons
theorem yn3:type_of% @Int.eq_ofNat_of_zero_le:= @Int.eq_ofNat_of_zero_le
theorem yo3:type_of% @List.drop_left:= @List.drop_left
theorem yp3:type_of% @List.take_add_one:= @List.take_add_one
theorem yq3:type_of% @List.take_length:= @List.take_length
theorem yr3:type_of% @Nat.zero_mul:= @Nat.zero_mul
theorem ys3:type_of% @List.set_append_right:= @List.set_append_right
theorem yt3:type_of% @Nat.mul_one:= @Nat.mul_one
theorem yu3:type_of% @List.drop_eq_getElem_cons:= @List.drop_eq_getElem_cons
theorem yv3:type_of% @List.nil_append:= @List.nil_append
theorem yw3:type_of% @Array.getElem?_replicate:= @Array.getElem?_replicate
theorem yx3:type_of% @Nat.add_sub_cancel_left:= @Nat.add_sub_cancel_left
theorem yy3:type_of% @List.replicate_succ:= @List.replicate_succ
theorem yz3:type_of% @Bool.and_true:= @Bool.and_true
theorem ya4:type_of% @List.take_succ_cons:= @List.take_succ_cons
theorem yb4:type_of% @List.length_drop:= @List.length_drop
theorem yc4:type_of% @List.getElem_zip:= @List.getElem_zip
theorem yd4:type_of% @Nat.sub_self:= @Nat.sub_self
theorem ye4:type_of% @List.map_append:= @List.map_append
theorem yf4:type_of% @List.map_nil:= @List.map_nil
theorem yg4:type_of% @Bool.false_or:= @Bool.false_or
theorem yh4:type_of% @List.map_drop:= @List.map_drop
theorem yi4:type_of% @List.take_zero:= @List.take_zero
theorem yj4:type_of% @Nat.lt_irrefl:= @Nat.lt_irrefl
class cF where
 tab:Nat->Option (Int×Int)
noncomputable section
def eO{α:Type}(l:List α):Nat->Option α:=List.rec (λ_=>none) (λa _ ih n=>Nat.rec (some a) (λm _=>ih m) n) l
def s6{α:Type}(v:α)(l:List α):Nat->List α:=List.rec (λ_=> []) (λa r ih n=>Nat.rec (v::r) (λm _=>a::ih m) n) l
theorem bA{α:Type}: ∀(l:List α) (n:Nat),eO l n=l[n]?
 | [],n=>by simp[eO]
 |a::r,0=>rfl
 |a::r,n+1=>by rw[ym1,<-bA r n];rfl
theorem d8{α:Type}(v:α): ∀(l:List α) (n:Nat),s6 v l n=l.set n v
 | [],n=>by simp[s6]
 |a::r,0=>rfl
 |a::r,n+1=>by rw[List.set_cons_succ,<-d8 v r n];rfl
inductive PV where
 |lit (v:Value)
 |ints (k:IntKind) (xs:List Int)
 |sl (e:Nat) (xs:List PV)
 |agg (cs:List PV)
 deriving Inhabited
inductive AV where
 |lit (v:Value)
 |imm (β:Bool) (p:PV)
 |ptr (b g i c:Nat)
 |ms (b g o n:Nat)
 |msw (b g:Nat)
 |el (β:Bool) (p:PV) (c:Nat)
 |fn (f:Fn) (first cap:List AV)
 |agg (cs:List AV)
 |tup (vs:List AV)
 deriving Inhabited
inductive aZ where
 |ints (k:IntKind) (xs:List Int)
 |pvs (β:Bool) (e:Nat) (xs:List PV)
 |cells (e:Nat) (cs:List AV)
 |own (e:Nat) (xs:List PV) (hs:List (Nat×Nat×AV))
 deriving Inhabited
structure bK where
 gen:Nat
 frz:Bool
 row:aZ
 deriving Inhabited
abbrev aK:=List (Option bK)
structure St where
 tmps:List AV
 mem:aK
structure nB where
 live:List (Nat×List Nat):= []
 raw:List (Nat×Nat):= []
 boxed:List (Nat×Nat):= []
 vars:List (Nat×Nat):= []
 hint:List (Nat×Nat×Int):= []
 own:List (Nat×Nat):= []
 keep:List Nat:= []
 tidy:List (Nat×List Nat×List (Operand×Nat×Operand×Nat)):= []
def dB{α:Type}(n:Nat):List (Nat×α)->Option α
 | []=>none
 |(m,x)::r=>bif Nat.beq m n then some x else dB n r
def bG(a b:Nat):List (Nat×Nat)->Bool
 | []=>false
 |(m,x)::r=>(Nat.beq m a&&Nat.beq x b)||bG a b r
def eC(n:Nat):List Nat->Bool
 | []=>false
 |m::r=>Nat.beq m n||eC n r
def guardB{α:Type}(c:Bool)(x:Option α):Option α:=bif c then x else none
def aM{α:Type}(xs:List α)(i:Int):Option α:=bif decide (0≤i)then xs[i.toNat]? else none
def iK(a b:IntKind):Bool:=
 match a,b with
 | .i8,.i8| .i16,.i16| .i32,.i32| .i64,.i64| .u8,.u8| .u16,.u16| .u32,.u32| .u64,.u64=>true
 |_,_=>false
def PV.int?(k:IntKind):PV->Option Int
 | .lit (.int k' n)=>bif iK k k' then some n else none
 |_=>none
def PV.bool?:PV->Option Bool
 | .lit (.bool b)=>some b
 |_=>none
def PV.str?:PV->Option ByteArray
 | .lit (.string s)=>some s
 |_=>none
def PV.ints?(k:IntKind):PV->Option (List Int)
 | .ints k' xs=>bif iK k k' then some xs else none
 |_=>none
def PV.sl?(e:Nat):PV->Option (List PV)
 | .sl e' xs=>bif Nat.beq e e' then some xs else none
 |_=>none
def PV.cells:PV->List PV
 | .agg cs=>cs
 |p=> [p]
inductive LK where
 |int (k:IntKind)|bool|str|ints (k:IntKind)|sl (t:TypeId) (e:Nat)
section
variable (P:Program)
def jR(t:TypeId):Option Nat:=(P.info? t).map (·.size)
def kT(t:TypeId):Option Nat:=(P.info? t).map (·.bytes)
def intKind?(t:TypeId):Option IntKind:=
 match P.underlying t with
 |some (.int k)=>some k
 |_=>none
def elemOf?(t:TypeId):Option TypeId:=
 match P.underlying t with
 |some (.slice e)=>some e
 |_=>none
def isAgg?(t:TypeId):Option Bool:=
 match P.underlying t with
 |some (.struct _)=>some true
 |some (.array _ _)=>some true
 |some _=>some false
 |none=>none
def leaf?(t:TypeId):Option LK:=
 match P.underlying t with
 |some (.int k)=>some (.int k)
 |some .bool=>some .bool
 |some .string=>some .str
 |some (.slice e)=>
  match intKind? P e with
  |some k=>some (.ints k)
  |none=>(jR P e).map (.sl e)
 |_=>none
def Lk(leaves:TypeId->Option (List LK)):List Field->Option (List LK)
 | []=>some []
 |f::r=>(leaves f.type).bind λa=>(Lk leaves r).map (a++ ·)
def leaves?:Nat->TypeId->Option (List LK)
 |0,_=>none
 |n+1,t=>
  match P.underlying t with
  |some (.struct fs)=>Lk (leaves? n) fs.toList
  |_=>(leaf? P t).map λl=> [l]
def gJ(β:Bool)(l:LK)(q:PV):Option AV:=
 match l with
 | .int k=>(q.int? k).bind λx=>some (.lit (.int k x))
 | .bool=>q.bool?.bind λx=>some (.lit (.bool x))
 | .str=>q.str?.bind λx=>some (.lit (.string x))
 | .ints k=>(q.ints? k).bind λx=>some (.imm β (.ints k x))
 | .sl _ e=>(q.sl? e).bind λx=>some (.imm β (.sl e x))
def iI(β:Bool)(cs:List PV):List LK->Nat->Option (List AV)
 | [],_=>some []
 |l::r,c=>(cs[c]?).bind λq=>(gJ β l q).bind λa=>(iI β cs r (c+1)).bind λas=>some (a::as)
def Pq(β:Bool)(t:TypeId)(p:PV)(c:Nat):Option AV:=
 match isAgg? P t with
 |some true=>(leaves? P 8 t).bind λls=>(jR P t).bind λn=>guardB (Nat.beq n ls.length) ((iI β p.cells ls c).bind λas=>some (.agg as))
 |some false=>(leaf? P t).bind λl=>(p.cells[c]?).bind λq=>gJ β l q
 |none=>none
def mW:Value->Bool
 | .agg _=>false
 |_=>true
def Jw:List Value->Option (List AV)
 | []=>some []
 |v::r=>guardB (mW v) ((Jw r).map (.lit v:: ·))
def Aj:Value->Option AV
 | .agg cs=>(Jw cs.toList).map .agg
 |v=>some (.lit v)
def zero?(t:TypeId):Option AV:=((P.info? t).bind (·.zero)).bind Aj
def AV.dead:AV:= .imm false (.agg [])
def AV.unkB:AV:= .imm true (.lit (.bool false))
open Classical in
def amb{α:Type}(a b:Option α):Option α:=if a=b then a else none
def AV.goneV:AV:= .imm true (.agg [])
def gK:AV->Bool
 | .imm true (.agg _)=>true
 |_=>false
def AV.cells:AV->List AV
 | .agg cs=>cs
 |v=> [v]
inductive aL where
 |ints (k:IntKind) (xs:List Int)
 |pvs (β:Bool) (e:Nat) (xs:List PV)
 |avs (e:Nat) (cs:List AV)
def aR(e:Nat)(n:Nat):Nat:=bif Nat.beq e 0 then 0 else bif Nat.beq e 1 then n else n/e
def aL.len:aL->Nat
 | .ints _ xs=>xs.length
 | .pvs _ _ xs=>xs.length
 | .avs e cs=>aR e cs.length
def aL.imm?:aL->Option AV
 | .ints k xs=>some (.imm false (.ints k xs))
 | .pvs β e xs=>some (.imm β (.sl e xs))
 | .avs _ _=>none
def aL.row:aL->aZ
 | .ints k xs=> .ints k xs
 | .pvs β e xs=> .pvs β e xs
 | .avs e cs=> .cells e cs
def fM(k:IntKind):List AV->Option (List Int)
 | []=>some []
 | .lit (.int k' x)::r=>bif iK k k' then(fM k r).map (x:: ·)else none
 |_::_=>none
def aZ.len:aZ->Nat
 | .ints _ xs=>xs.length
 | .pvs _ _ xs=>xs.length
 | .cells e cs=>aR e cs.length
 | .own _ xs _=>xs.length
def aZ.e:aZ->Nat
 | .ints _ _=>1
 | .pvs _ e _=>e
 | .cells e _=>e
 | .own e _ _=>e
def aL.e:aL->Nat
 | .ints _ _=>1
 | .pvs _ e _=>e
 | .avs e _=>e
def aZ.all:aZ->aL
 | .ints k xs=> .ints k xs
 | .pvs β e xs=> .pvs β e xs
 | .cells e cs=> .avs e cs
 | .own e xs _=> .pvs true e xs
def aZ.sub(o n:Nat):aZ->Option aL
 | .ints k xs=>guardB (Nat.ble (o+n) xs.length) (some (.ints k ((xs.drop o).take n)))
 | .pvs β e xs=>guardB (Nat.ble (o+n) xs.length) (some (.pvs β e ((xs.drop o).take n)))
 | .cells e cs=>guardB (Nat.ble ((o+n)*e) cs.length) (some (.avs e ((cs.drop (o*e)).take (n*e))))
 | .own _ _ _=>none
def aZ.isInts:aZ->Bool
 | .ints _ _=>true
 |_=>false
def aZ.isOwn:aZ->Bool
 | .own _ _ _=>true
 |_=>false
def box?(mem:aK)(b g:Nat):Option bK:=
 match mem[b]? with
 |some (some x)=>bif Nat.beq x.gen g&&!x.row.isOwn then some x else none
 |_=>none
def boxO?(mem:aK)(b g:Nat):Option bK:=
 match mem[b]? with
 |some (some x)=>bif Nat.beq x.gen g&&x.row.isOwn then some x else none
 |_=>none
def dZ(s:ByteArray):List Int:=s.data.toList.map λb=>(b.toNat:Int)
def qW(xs:List Int):ByteArray:=⟨(xs.map λn=>UInt8.ofNat n.toNat).toArray⟩
def AB:LK->Bool
 | .int _=>true
 | .bool=>true
 | .str=>true
 |_=>false
def Ny(et:TypeId):Bool:=
 match leaves? P 8 et with
 |some ls=>ls.all AB
 |none=>false
def Pi:PV->Bool
 | .lit _=>true
 |_=>false
def CI(p:PV):Bool:=p.cells.all Pi
def view(et:TypeId)(mem:aK):AV->Option (aL×List Nat)
 | .imm _ (.ints k xs)=>some (.ints k xs,[])
 | .imm β (.sl e xs)=>some (.pvs (bif Ny P et&&xs.all CI then false else β) e xs,[])
 | .ms b g o n=>(box? mem b g).bind λx=>(x.row.sub o n).map λv=>(v,[b])
 | .msw b g=>(box? mem b g).bind λx=>some (x.row.all,[b])
 | .lit (.string s)=>some (.ints .u8 (dZ s),[])
 | .lit (.slice none 0 0)=>
  match intKind? P et with
  |some k=>some (.ints k [],[])
  |none=>(jR P et).map λe=>(.pvs false e [],[])
 |_=>none
def lenOf(t:TypeId)(mem:aK)(x:AV):Option (Nat×List Nat):=
 match P.underlying t with
 |some .string=>
  match x with
  | .lit (.string s)=>some (s.size,[])
  |_=>none
 |some (.slice _)=>
  match x with
  | .imm _ (.ints _ xs)=>some (xs.length,[])
  | .imm _ (.sl _ xs)=>some (xs.length,[])
  | .ms b g o n=>some (n,[])
  | .msw b g=>(box? mem b g).map λx=>(x.row.len,[b])
  | .lit (.slice none 0 0)=>some (0,[])
  |_=>none
 |_=>none
def KB:AV->Bool
 | .lit v=>v.oneCell'
 | .agg _=>false
 | .tup _=>false
 |_=>true
def jX:List AV->Bool
 | []=>true
 |v::r=>KB v&&jX r
def chunks{α:Type}(e:Nat):Nat->List α->List (List α)
 |0,_=> []
 |n+1,cs=>cs.take e::chunks e n (cs.drop e)
def wQ(t:TypeId)(cs:List PV):Option PV:=
 match isAgg? P t with
 |some true=>some (.agg cs)
 |some false=>(match cs with| [c]=>some c|_=>none)
 |none=>none
def gO{α β:Type}(f:α->Option (Bool×β×List Nat)):List α->Option (Bool×List β×List Nat)
 | []=>some (false,[],[])
 |v::r=>(f v).bind λa=>(gO f r).bind λq=>some (a.1||q.1,a.2.1::q.2.1,a.2.2++q.2.2)
def cD{α β γ:Type}(f:γ->α->Option (Bool×β×List Nat)):List γ->List α->Option (Bool×List β×List Nat)
 | [],[]=>some (false,[],[])
 |l::ls,v::r=>(f l v).bind λa=>(cD f ls r).bind λq=>some (a.1||q.1,a.2.1::q.2.1,a.2.2++q.2.2)
 |_,_=>none
def bD(mem:aK):Nat->LK->AV->Option (Bool×PV×List Nat)
 |0,_,_=>none
 |n+1,l,v=>
  match l,v with
  | .int k,.lit (.int k' x)=>guardB (iK k k') (some (false,.lit (.int k' x),[]))
  | .bool,.lit (.bool b)=>some (false,.lit (.bool b),[])
  | .str,.lit (.string s)=>some (false,.lit (.string s),[])
  | .ints k,.imm β (.ints k' xs)=>guardB (iK k k') (some (β,.ints k' xs,[]))
  | .ints k,.lit (.slice none 0 0)=>some (false,.ints k [],[])
  | .ints k,.msw b g=>(box? mem b g).bind λx=>treeInts k b x.row.all
  | .ints k,.ms b g o m=>(box? mem b g).bind λx=>(x.row.sub o m).bind λw=>treeInts k b w
  | .sl _ e,.imm β (.sl e' xs)=>guardB (Nat.beq e e') (some (β,.sl e' xs,[]))
  | .sl _ e,.lit (.slice none 0 0)=>some (false,.sl e [],[])
  | .sl t e,.msw b g=>(box? mem b g).bind λx=>treeSl (bD mem n) t e b x.row.all
  | .sl t e,.ms b g o m=>(box? mem b g).bind λx=>(x.row.sub o m).bind λw=>treeSl (bD mem n) t e b w
  |_,_=>none
 where
 treeInts (k:IntKind) (b:Nat) (w:aL):Option (Bool×PV×List Nat):=
  match w with
  | .ints k' xs=>guardB (iK k k') (some (false,.ints k' xs,[b]))
  | .avs e cs=>guardB (Nat.beq e 1) ((fM k cs).map λxs=>(false,.ints k xs,[b]))
  |_=>none
 treeSl (f:LK->AV->Option (Bool×PV×List Nat)) (t:TypeId) (e b:Nat) (w:aL):Option (Bool×PV×List Nat):=
  match w with
  | .pvs β e' xs=>guardB (Nat.beq e e') (some (β,.sl e' xs,[b]))
  | .avs e' cs=>guardB (Nat.beq e e'&&Nat.ble 1 e) ((leaves? P 8 t).bind λls=>
    (gO (fun vs => (cD f ls vs).bind fun q => (wQ P t q.2.1).map fun p => (q.1, p, q.2.2)) (chunks e (aR e cs.length) cs)).map fun q => (q.1, .sl e q.2.1, b :: q.2.2))
  |_=>none
def ID:Nat:=6
def pM(mem:aK)(v:AV):Option (Nat×Nat×List PV):=
 match v with
 | .msw b g=>(boxO? mem b g).bind λx=>match x.row with
  | .own e xs []=>guardB (!x.frz) (some (b,e,xs))
  |_=>none
 | .ms b g 0 n=>(boxO? mem b g).bind λx=>match x.row with
  | .own e xs []=>guardB (!x.frz&&Nat.ble n xs.length) (some (b,e,xs.take n))
  |_=>none
 |_=>none
def kA(mem:aK)(l:LK)(v:AV):Option (Bool×PV×List Nat):=
 match pM mem v with
 |some q=>match l with
  | .sl _ e=>guardB (Nat.beq e q.2.1) (some (false,.sl e q.2.2,[q.1]))
  |_=>none
 |none=>bD P mem ID l v
def vL(mem:aK)(t:TypeId)(v:AV):Option (Bool×PV×List Nat):=
 (leaves? P 8 t).bind λls=>(cD (kA P mem) ls v.cells).bind λr=>(wQ P t r.2.1).map λp=>(r.1,p,r.2.2)
def aZ.shut:aZ->aZ
 | .own e xs _=> .pvs false e xs
 |r=>r
def aZ.okShut:aZ->Bool
 | .own _ _ (_::_)=>false
 |_=>true
def cA(mem:aK):List Nat->List (Nat×bK)
 | []=> []
 |b::r=>match mem[b]? with
  |some (some x)=>bif x.row.okShut then(b,{x with frz:=true,row:=x.row.shut})::cA mem r else cA mem r
  |_=>cA mem r
def iJ:List AV->List AV
 | []=> []
 |v::r=>v.cells++iJ r
def fZ:List Nat->Bool
 | []=>true
 |_=>false
def nG(e:Nat):List AV->Bool
 | []=>true
 |v::r=>Nat.beq v.cells.length e&&nG e r
def oL(vars:Bool)(mem:aK)(t:TypeId)(vs:List AV):Option (aL×List Nat):=
 match intKind? P t with
 |some k=>(fM k vs).map λxs=>(.ints k xs,[])
 |none=>(jR P t).bind λe=>
  bif vars then guardB (nG e vs&&Nat.ble 1 e&&jX (iJ vs)) (some (.avs e (iJ vs),[]))
  else(gO (vL P mem t) vs).map λr=>(.pvs r.1 e r.2.1,r.2.2)
def Hc(t:TypeId)(β:Bool)(e:Nat):List PV->Option (List AV)
 | []=>some []
 |p::r=>(Pq P β t p 0).bind λv=>guardB (Nat.beq v.cells.length e) ((Hc t β e r).map (v.cells++ ·))
def aL.toAvs(t:TypeId):aL->Option (List AV)
 | .ints k xs=>some (xs.map λx=> .lit (.int k x))
 | .pvs β e xs=>Hc P t β e xs
 | .avs e cs=>some cs
structure dI where
 v:AV
 rd:List Nat:= []
 wr:List (Nat×bK):= []
 push:aK:= []
abbrev bX:=FuncId->List AV->aK->Option (AV×aK)
def aN(mem:aK):List (Nat×bK)->aK
 | []=>mem
 |(b,x)::r=>aN (mem.set b (some x)) r
def dI.apply(o:dI)(mem:aK):aK:=aN mem o.wr++o.push
def sD(op:BinOp)(x y:Value):Option Value:=
 match x,y with
 | .int k a,.int k' b=>
  match op with
  | .shl=>guardB (decide (0≤b)) (some (.int k (k.wrap (a*2 ^ (min b.toNat k.bits)))))
  | .shr=>guardB (decide (0≤b)) (some (.int k (a.fdiv (2 ^ (min b.toNat k.bits)))))
  | .add=>guardB (iK k k') (some (.int k (k.wrap (a+b))))
  | .sub=>guardB (iK k k') (some (.int k (k.wrap (a-b))))
  | .mul=>guardB (iK k k') (some (.int k (k.wrap (a*b))))
  | .quo=>guardB (iK k k') (guardB (!(b==0)) (some (.int k (k.wrap (a.tdiv b)))))
  | .rem=>guardB (iK k k') (guardB (!(b==0)) (some (.int k (a.tmod b))))
  | .and=>guardB (iK k k') (some (.int k (k.wrap (BitVec.ofInt k.bits a &&& BitVec.ofInt k.bits b).toNat)))
  | .or=>guardB (iK k k') (some (.int k (k.wrap (BitVec.ofInt k.bits a ||| BitVec.ofInt k.bits b).toNat)))
  | .xor=>guardB (iK k k') (some (.int k (k.wrap (BitVec.ofInt k.bits a ^^^ BitVec.ofInt k.bits b).toNat)))
  | .andNot=>guardB (iK k k') (some (.int k (k.wrap (BitVec.ofInt k.bits a &&& ~~~BitVec.ofInt k.bits b).toNat)))
  | .eql=>guardB (iK k k') (some (.bool (a==b)))
  | .neq=>guardB (iK k k') (some (.bool (a !=b)))
  | .lss=>guardB (iK k k') (some (.bool (decide (a<b))))
  | .leq=>guardB (iK k k') (some (.bool (decide (a≤b))))
  | .gtr=>guardB (iK k k') (some (.bool (decide (a>b))))
  | .geq=>guardB (iK k k') (some (.bool (decide (a≥b))))
 | .bool a,.bool b=>
  match op with
  | .eql=>some (.bool (a==b))
  | .neq=>some (.bool (!(a==b)))
  |_=>none
 | .string a,.string b=>
  match op with
  | .eql=>some (.bool (a.toList==b.toList))
  | .neq=>some (.bool (!(a.toList==b.toList)))
  |_=>none
 |_,_=>none
def IC(op:UnOp)(x:Value):Option Value:=
 match op,x with
 | .neg,.int k n=>some (.int k (k.wrap (0-n)))
 | .xor,.int k n=>some (.int k (k.wrap (BitVec.ofInt k.bits (if k.signed then-1 else k.max) ^^^ BitVec.ofInt k.bits n).toNat))
 | .not,.bool b=>some (.bool (!b))
 |_,_=>none
def De(t:TypeId)(a b:AV):Option Bool:=
 match P.underlying t,a,b with
 |some (.int _),.lit (.int k a),.lit (.int k' b)=>guardB (iK k k') (some (a==b))
 |some .bool,.lit (.bool a),.lit (.bool b)=>some (a==b)
 |some .string,.lit (.string a),.lit (.string b)=>some (a.toList==b.toList)
 |_,_,_=>none
def lY:List Field->Nat->List AV->List AV->Option Bool
 | [],_,[],[]=>some true
 |f::fs,n,a::as,b::bs=>guardB ((f.name != "_")&&Nat.beq f.offset n) ((De P f.type a b).bind fun q=>(lY fs (n+1) as bs).map fun r=>q&&r)
 |_,_,_,_=>none
def nY(t:TypeId)(a b:List AV):Option Bool:=
 match P.underlying t with
 |some (.struct fs)=>guardB ((!(P.stoodInHeld t))&&(!(P.eqGuardType P.depth t))) (lY P fs.toList 0 a b)
 |_=>none
def IF(t:TypeId):Bool:=
 match P.underlying t with
 |some (.pointer _)=>true
 |_=>false
def Kl(t:TypeId):Bool:=
 match P.underlying t with
 |some .bool=>true
 |_=>false
def FX(t:TypeId)(a b:Value):Bool:=
 match a,b with
 | .bool _,.bool _=>Kl P t
 |_,_=>true
def Be(t:TypeId):Bool:=
 match P.underlying t with
 |some (.slice _)=>true
 |_=>false
def lE:PV->Option Bool
 | .ints _ xs=>some xs.isEmpty
 | .sl _ xs=>some xs.isEmpty
 |_=>none
def vN(op:BinOp)(t:TypeId)(x y:AV):Option AV:=
 match x,y with
 | .imm _ p,.lit (.slice none 0 0)=>
  match op with
  | .eql=>guardB (Be P t) ((lE p).map λe=>bif e then .unkB else .lit (.bool false))
  | .neq=>guardB (Be P t) ((lE p).map λe=>bif e then .unkB else .lit (.bool true))
  |_=>none
 | .lit (.slice none 0 0),.lit (.slice none 0 0)=>
  match op with
  | .eql=>guardB (Be P t) (some (.lit (.bool true)))
  | .neq=>guardB (Be P t) (some (.lit (.bool false)))
  |_=>none
 | .lit a,.lit b=>guardB (FX P t a b) ((sD op a b).map .lit)
 | .agg a,.agg b=>
  match op with
  | .eql=>(nY P t a b).map λr=> .lit (.bool r)
  | .neq=>(nY P t a b).map λr=> .lit (.bool (!r))
  |_=>none
 | .ptr _ _ _ _,.lit (.pointer none)| .el _ _ _,.lit (.pointer none)=>
  match op with
  | .eql=>guardB (IF P t) (some (.lit (.bool false)))
  | .neq=>guardB (IF P t) (some (.lit (.bool true)))
  |_=>none
 |_,_=>none
def setCells:List AV->Nat->List AV->List AV
 |cs,_,[]=>cs
 |cs,i,v::r=>setCells (cs.set i v) (i+1) r
def p5:List PV->Nat->List PV->List PV
 |cs,_,[]=>cs
 |cs,i,v::r=>p5 (cs.set i v) (i+1) r
def AT(y:Nat):Option Int->Nat->Option Nat
 |none,d=>some d
 |some i,_=>guardB (decide (0≤i)&&decide (i≤(y:Int))) (some i.toNat)
def iA(len:Nat)(lo hi mx:Option Int):Option (Nat×Nat):=
 guardB (mx.isNone||hi.isSome)
  ((AT len mx len).bind λm=>(AT m hi len).bind λh=>(AT h lo 0).bind λl=>some (l,h))
def NA:Option AV->Option (Option Int)
 |none=>some none
 |some (.lit (.int _ n))=>some (some n)
 |some _=>none
def TG(k:IntKind)(x y:Int):Int:=bif decide (y<x)then y else x
def S2(k:IntKind)(x y:Int):Int:=bif decide (y>x)then y else x
def mQ(f:Int->Int->Int)(k:IntKind):List AV->Int->Option Int
 | [],a=>some a
 | .lit (.int k' b)::r,a=>guardB (iK k k') (mQ f k r (f a b))
 |_,_=>none
def bJ:Nat:=4294967296
def aL.app(t:TypeId)(x y:aL):Option aL:=
 match x,y with
 | .ints k xs,.ints k' ys=>guardB (iK k k') (some (.ints k (xs++ys)))
 | .pvs β e xs,.pvs β' e' ys=>guardB (Nat.beq e e') (some (.pvs (β||β') e (xs++ys)))
 | .avs e xs,y=>(y.toAvs P t).bind λys=>guardB (jX ys&&Nat.beq e y.e&&Nat.ble 1 e) (some (.avs e (xs++ys)))
 |_,_=>none
def z8(tx:TypeId)(y:AV):Bool:=
 match P.underlying tx,y with
 |some .string,.lit (.string _)=>true
 |some (.slice _),.lit (.string _)=>false
 |some (.slice _),_=>true
 |_,_=>false
def mH(vars:Bool)(et:TypeId)(v:aL):Option aZ:=
 bif vars then guardB (Nat.ble 1 v.len) ((v.toAvs P et).bind λcs=>guardB (jX cs) (some (.cells v.e cs)))else
 match v with
 | .avs _ _=>none
 |v=>some v.row
def iM(boxed vars:Bool)(t tx:TypeId)(mem:aK)(rs:Nat)(x y:AV):Option dI:=
 (elemOf? P t).bind λet=>(jR P et).bind λs=>(kT P et).bind λbytes=>(zero? P et).bind λz=>
 (view P et mem y).bind λyv=>
 guardB (Nat.beq s yv.1.e&&z8 P tx y&&Nat.ble bytes 4096&&Nat.ble 1 s&&Nat.beq z.cells.length s)
 (match x with
 | .lit (.slice none 0 0)=>
  guardB (Nat.ble yv.1.len bJ) (
  bif boxed then(mH P vars et yv.1).map λrow=>{v:= .msw rs 0,rd:=yv.2,wr:= [(rs,{gen:=0,frz:=false,row})]}
  else yv.1.imm?.map λv=>{v,rd:=yv.2})
 | .msw b g=>(box? mem b g).bind λbx=>(bx.row.all.app P et yv.1).bind λzv=>
  guardB (!bx.frz&&Nat.beq s bx.row.e&&Nat.ble zv.len bJ)
   (some {v:= .msw b (g+1),rd:=b::yv.2,wr:= [(b,{gen:=g+1,frz:=false,row:=zv.row})]})
 | .ms b g o n=>(box? mem b g).bind λbx=>(bx.row.sub o n).bind λxv=>(xv.app P et yv.1).bind λzv=>
  guardB (!bx.frz&&Nat.beq s bx.row.e&&Nat.ble zv.len bJ&&(Nat.beq o 0||(bx.row.isInts&&Nat.ble 1 zv.len)))
   (some {v:= .msw b (g+1),rd:=b::yv.2,wr:= [(b,{gen:=g+1,frz:=false,row:=zv.row})]})
 |_=>none)
def iY(t:TypeId)(mem:aK)(x:AV)(i:Int):Option dI:=
 match P.underlying t with
 |some (.slice et)=>(jR P et).bind λs=>
  match x with
  | .imm β (.ints k xs)=>guardB (Nat.beq s 1) ((aM xs i).bind λv=>some {v:= .el β (.lit (.int k v)) 0})
  | .imm β (.sl e xs)=>guardB (Nat.beq s e) ((aM xs i).bind λv=>some {v:= .el β v 0})
  | .ms b g o n=>(box? mem b g).bind λbx=>guardB (Nat.beq s bx.row.e&&decide (0≤i)&&decide (i<(n:Int))) (some {v:= .ptr b g (o+i.toNat) 0,rd:= [b]})
  | .msw b g=>(box? mem b g).bind λbx=>guardB (Nat.beq s bx.row.e&&decide (0≤i)&&decide (i<(bx.row.len:Int))) (some {v:= .ptr b g i.toNat 0,rd:= [b]})
  |_=>none
 |some (.array n e)=>(jR P e).bind λs=>
  match x with
  | .ptr b g j c=>guardB (decide (0≤i)&&decide (i<(n:Int))) (some {v:= .ptr b g j (c+i.toNat*s)})
  |_=>none
 |_=>none
def jY(t:TypeId)(mem:aK)(a:AV):Option dI:=
 match a with
 | .el β p c=>(Pq P β t p c).map λv=>{v}
 | .ptr b g i c=>(box? mem b g).bind λbx=>
  match bx.row with
  | .cells e cs=>
   (isAgg? P t).bind λag=>bif ag then(jR P t).bind λn=>guardB (Nat.ble (i*e+c+n) cs.length) (some {v:= .agg ((cs.drop (i*e+c)).take n),rd:= [b]})
    else(cs[i*e+c]?).map λv=>{v,rd:= [b]}
  | .ints k xs=>guardB (Nat.beq c 0) (guardB (match isAgg? P t with|some false=>true|_=>false) ((xs[i]?).map λx=>{v:= .lit (.int k x),rd:= [b]}))
  | .pvs β e xs=>(xs[i]?).bind λx=>(Pq P β t x c).map λv=>{v,rd:= [b]}
  | .own _ _ _=>none
 |_=>none
def jV(t:TypeId)(mem:aK)(a x:AV):Option dI:=
 match a with
 | .ptr b g i c=>(box? mem b g).bind λbx=>(jR P t).bind λn=>guardB (!bx.frz&&Nat.beq x.cells.length n)
  (match bx.row with
  | .cells e cs=>guardB (Nat.ble (i*e+c+n) cs.length&&jX x.cells) (some {v:= .lit undef,rd:= [b],wr:= [(b,{bx with row:= .cells e (setCells cs (i*e+c) x.cells)})]})
  | .ints k xs=>
   match x with
   | .lit (.int k' v)=>guardB (iK k k'&&Nat.beq c 0&&Nat.ble (i+1) xs.length) (some {v:= .lit undef,rd:= [b],wr:= [(b,{bx with row:= .ints k (xs.set i v)})]})
   |_=>none
  | .pvs β e xs=>(xs[i]?).bind λp=>(vL P mem t x).bind λq=>guardB (Nat.ble (c+n) e&&Nat.beq p.cells.length e&&!eC b q.2.2)
    (some {v:= .lit undef,rd:=b::q.2.2,wr:=cA mem q.2.2++ [(b,{bx with row:= .pvs (β||q.1) e (xs.set i (bif Nat.beq n e&&Nat.beq c 0 then q.2.1 else .agg (p5 p.cells c q.2.1.cells)))})]})
  | .own _ _ _=>none)
 |_=>none
def gL(t:TypeId)(mem:aK)(x:AV)(lo hi mx:Option Int):Option dI:=
 match P.underlying t with
 |some .string=>
  match x with
  | .lit (.string s)=>guardB mx.isNone ((iA s.size lo hi none).map λb=>{v:= .lit (.string (s.extract b.1 b.2))})
  |_=>none
 |some (.slice et)=>(jR P et).bind λs=>
  match x with
  | .imm β (.ints k xs)=>guardB (Nat.beq s 1) ((iA xs.length lo hi mx).map λb=>{v:= .imm β (.ints k ((xs.take b.2).drop b.1))})
  | .imm β (.sl e xs)=>guardB (Nat.beq s e) ((iA xs.length lo hi mx).map λb=>{v:= .imm β (.sl e ((xs.take b.2).drop b.1))})
  | .ms b g o n=>(box? mem b g).bind λbx=>guardB (Nat.beq s bx.row.e) ((iA n lo hi mx).map λq=>{v:= .ms b g (o+q.1) (q.2-q.1),rd:= [b]})
  | .msw b g=>(box? mem b g).bind λbx=>guardB (Nat.beq s bx.row.e) ((iA bx.row.len lo hi mx).map λq=>{v:= .ms b g q.1 (q.2-q.1),rd:= [b]})
  | .lit (.slice none 0 0)=>(iA 0 lo hi mx).map λ_=>{v:= .lit (.slice none 0 0)}
  |_=>none
 |some (.array n e)=>(jR P e).bind λs=>
  match x with
  | .ptr b g 0 c=>guardB (Nat.beq s 1) ((box? mem b g).bind λbx=>
    match bx.row with
    | .cells 1 cs=>guardB (Nat.ble (c+n) cs.length) ((iA n lo hi mx).map λq=>{v:= .ms b g (c+q.1) (q.2-q.1),rd:= [b]})
    |_=>none)
  |_=>none
 |_=>none
def mN(s:TypeId)(f:Nat):Option (Nat×Nat×TypeId):=
 match P.underlying s with
 |some (.struct fs)=>(fs[f]?).bind λx=>(jR P x.type).bind λn=>guardB (Nat.ble 1 n) (some (x.offset,n,x.type))
 |_=>none
def Er(place:Nat->Option (Nat×Nat))(cs:List AV):List (Nat×AV)->Option (List AV)
 | []=>some cs
 |(i,v)::r=>(place i).bind λq=>guardB (Nat.beq v.cells.length q.2&&Nat.ble (q.1+q.2) cs.length) (Er place (setCells cs q.1 v.cells) r)
def places?:List Field->Option (List (Nat×Nat))
 | []=>some []
 |f::r=>(jR P f.type).bind λn=>(places? r).map ((f.offset,n):: ·)
def C1(t:TypeId)(parts:List (Nat×AV)):Option AV:=
 (zero? P t).bind λz=>
 match P.underlying t with
 |some (.struct fs)=>(places? P fs.toList).bind λps=>(Er (λi=>ps[i]?) z.cells parts).map .agg
 |some (.array _ e)=>(jR P e).bind λn=>(Er (λi=>some (i*n,n)) z.cells parts).map .agg
 |_=>none
def nZ(vs:List AV):List (Nat×AV)->List AV
 | []=>vs
 |(i,v)::r=>nZ (vs.set i v) r
def pV(n:Nat):List (Nat×AV)->Bool
 | []=>true
 |(i,_)::r=>Nat.ble (i+1) n&&pV n r
def oZ(ρ:Operand->Option AV):List Operand->Option (List AV)
 | []=>some []
 |x::r=>(ρ x).bind λv=>(oZ ρ r).map (v:: ·)
def lT(ρ:Operand->Option AV):List (Nat×Operand)->Option (List (Nat×AV))
 | []=>some []
 |(i,x)::r=>(ρ x).bind λv=>(lT ρ r).map ((i,v):: ·)
def BQ(ρ:Operand->Option AV):Option Operand->Option (Option Int)
 |none=>some none
 |some x=>(ρ x).bind λv=>NA (some v)
mutual
def AV.refs:AV->List Nat
 | .ptr b _ _ _=> [b]
 | .ms b _ _ _=> [b]
 | .msw b _=> [b]
 | .fn _ fi ca=>AV.refsAll fi++AV.refsAll ca
 | .agg cs=>AV.refsAll cs
 | .tup vs=>AV.refsAll vs
 | .lit _=> []
 | .imm _ _=> []
 | .el _ _ _=> []
def AV.refsAll:List AV->List Nat
 | []=> []
 |v::r=>v.refs++AV.refsAll r
end
def fN:List (Nat×Nat×AV)->List Nat
 | []=> []
 |(_,_,v)::r=>v.refs++fN r
def aZ.refs:aZ->List Nat
 | .cells _ cs=>AV.refsAll cs
 | .own _ _ hs=>fN hs
 |_=> []
def Dq(mem:aK)(b:Nat):List Nat:=
 match mem[b]? with
 |some (some x)=>x.row.refs
 |_=> []
def gQ(mem:aK):Nat->List Nat->List Nat->List Nat
 |0,_,seen=>seen
 |_,[],seen=>seen
 |n+1,b::todo,seen=>bif eC b seen then gQ mem n todo seen else gQ mem n (todo++Dq mem b) (seen++ [b])
def w7(b:Nat):List Nat->Nat->Option Nat
 | [],_=>none
 |m::r,n=>bif Nat.beq m b then some n else w7 b r (n+1)
def o8(mem:aK)(b:Nat):Option Nat:=
 match mem[b]? with
 |some (some x)=>some x.gen
 |_=>none
abbrev kY:=Nat->Nat->Option (Nat×Nat)
mutual
def AV.ren(f:kY):AV->AV
 | .ptr b g i c=>match f b g with|some q=> .ptr q.1 q.2 i c|none=> .dead
 | .ms b g o n=>match f b g with|some q=> .ms q.1 q.2 o n|none=> .dead
 | .msw b g=>match f b g with|some q=> .msw q.1 q.2|none=> .dead
 | .fn h fi ca=> .fn h (AV.renAll f fi) (AV.renAll f ca)
 | .agg cs=> .agg (AV.renAll f cs)
 | .tup vs=> .tup (AV.renAll f vs)
 | .lit v=> .lit v
 | .imm β p=> .imm β p
 | .el β p c=> .el β p c
def AV.renAll(f:kY):List AV->List AV
 | []=> []
 |v::r=>v.ren f::AV.renAll f r
end
def pQ(f:kY):List (Nat×Nat×AV)->List (Nat×Nat×AV)
 | []=> []
 |(i,c,v)::r=>(i,c,v.ren f)::pQ f r
def aZ.ren(f:kY):aZ->aZ
 | .own e xs hs=> .own e xs (pQ f hs)
 | .cells e cs=> .cells e (AV.renAll f cs)
 | .ints k xs=> .ints k xs
 | .pvs β e xs=> .pvs β e xs
def aZ.isCells:aZ->Bool
 | .cells _ _=>true
 |_=>false
def gA(m:Nat)(keep cells:Bool)(j g:Nat):Nat:=bif Nat.blt j m&&!cells then(bif keep&&Nat.beq g 0 then 0 else 1)else 0
def lZ(mem:aK)(b:Nat):Bool:=
 match mem[b]? with
 |some (some x)=>x.row.isCells
 |_=>false
def fU(m:Nat)(keep:Bool)(mem:aK)(ids:List Nat):kY:=λb g=>
 match o8 mem b with
 |some h=>bif Nat.beq h g then(w7 b ids 0).map λj=>(j,gA m keep (lZ mem b) j h)else none
 |none=>none
def eH(m:Nat)(keep:Bool)(f:kY)(mem:aK):Nat->List Nat->aK
 |_,[]=> []
 |j,b::r=>(match mem[b]? with
  |some (some x)=>some {gen:=gA m keep x.row.isCells j x.gen,frz:=x.frz,row:=x.row.ren f}
  |_=>none)::eH m keep f mem (j+1) r
def Uv:List Nat->List Nat->Bool
 | [],_=>true
 |b::r,ids=>eC b ids&&Uv r ids
def w9:List Nat->List Nat->Bool
 | [],_=>true
 |b::r,ids=>(!eC b ids)&&w9 r ids
def dY:List Nat->Bool
 | []=>true
 |b::r=>(!eC b r)&&dY r
def p0:Nat->Nat->List Nat
 |_,0=> []
 |a,n+1=>a::p0 (a+1) n
def dL(mem:aK)(n:Nat):Nat:=(mem.length+1)*(mem.length+1)+n
def vD(mem:aK):List (Option Bool):=mem.map λx=>x.map (·.row.isCells)
def pD:List (Option Bool)->aK->Bool
 | [],_=>true
 |some k::r,some x::m=>(bif k then x.row.isCells&&Nat.beq x.gen 0 else !x.row.isCells)&&pD r m
 |none::r,none::m=>pD r m
 |_,_=>false
def zF:Nat->Nat->List Nat->Bool
 |_,0,_=>true
 |i,n+1,b::r=>Nat.beq b i&&zF (i+1) n r
 |_,_+1,[]=>false
def cJ:aK->List Nat
 | []=> []
 |some x::r=>x.row.refs++cJ r
 |none::r=>cJ r
def cP(b:Nat):List Nat->Nat
 | []=>0
 |m::r=>bif Nat.beq m b then cP b r+1 else cP b r
def A7(mem:aK)(v:AV):Option (Nat×PV):=
 match v with
 | .msw b g=>(box? mem b g).bind λx=>bif x.frz then none else match x.row with
  | .ints k xs=>some (b,.ints k xs)
  | .pvs false e xs=>some (b,.sl e xs)
  |_=>none
 | .ms b g 0 n=>(box? mem b g).bind λx=>bif x.frz then none else match x.row with
  | .ints k xs=>guardB (Nat.ble n xs.length) (some (b,.ints k (xs.take n)))
  | .pvs false e xs=>guardB (Nat.ble n xs.length) (some (b,.sl e (xs.take n)))
  |_=>none
 |_=>none
def pI(v:AV):Option Nat:=
 match v with
 | .msw b _=>some b
 | .ms b _ _ _=>some b
 |_=>none
def RY:PV->PV->Bool
 | .ints k _,.ints k' _=>iK k k'
 | .sl e _,.sl e' _=>Nat.beq e e'
 |_,_=>false
def mB(m:Nat)(refs:List Nat)(mem:aK)(v:AV):Bool:=
 match pI v with
 |some b=>Nat.ble m b&&Nat.beq (cP b refs) 1&&(match mem[b]? with
  |some (some x)=>(match v with| .msw _ g=>Nat.beq x.gen g| .ms _ g _ _=>Nat.beq x.gen g|_=>false)&&!x.frz&&(match x.row with| .ints _ _=>true| .pvs β _ _=>!β|_=>false)
  |_=>false)
 |none=>false
def k8(c:Nat):List (Nat×Nat×AV)->Option (Nat×AV)
 | []=>none
 |(i,c',v)::r=>bif Nat.beq c c' then some (i,v)else k8 c r
def cS{α:Type}:List α->Nat->List α
 | [],_=> []
 |_::r,0=>r
 |a::r,n+1=>a::cS r n
def k9(m:Nat)(refs:List Nat)(mem:aK)(all:List (Nat×Nat×AV)):List (Nat×Nat×AV)->Nat->Option Nat
 | [],_=>none
 |(_,c,v)::r,k=>bif mB m refs mem v&&(k8 c (cS all k)).isNone then some k else k9 m refs mem all r (k+1)
def i9(m:Nat)(refs:List Nat)(mem:aK):aK->Nat->Option (Nat×Nat)
 | [],_=>none
 |x::r,b=>match x with
  |some {row:= .own _ _ hs,..}=>(match k9 m refs mem hs hs 0 with
   |some k=>some (b,k)
   |none=>i9 m refs mem r (b+1))
  |_=>i9 m refs mem r (b+1)
def jZ(p:PV)(c:Nat)(y:PV):PV:=
 match p with
 | .agg cs=> .agg (cs.set c y)
 |_=>y
def qO(mem:aK)(b k:Nat):Option aK:=
 match mem[b]? with
 |some (some {gen,frz,row:= .own e xs hs})=>(hs[k]?).bind λh=>(xs[h.1]?).bind λp=>(p.cells[h.2.1]?).bind λy=>(A7 mem h.2.2).bind λq=>
   guardB (RY y q.2&&!(Nat.beq q.1 b)&&(k8 h.2.1 (cS hs k)).isNone) (some ((mem.set b (some {gen,frz,row:= .own e (xs.set h.1 (jZ p h.2.1 q.2)) (cS hs k)})).set q.1 none))
 |_=>none
def nL(m:Nat)(vs:List AV):Nat->aK->Option aK
 |0,mem=>some mem
 |n+1,mem=>match i9 m (AV.refsAll vs++cJ mem) mem mem 0 with
  |none=>some mem
  |some q=>(qO mem q.1 q.2).bind λmem'=>nL m vs n mem'
def Pr(mem:aK)(b:Nat):Bool:=
 match mem[b]? with
 |some (some _)=>true
 |_=>false
def sP(m:Nat)(vs:List AV):Nat->aK->aK
 |0,mem=>mem
 |b+1,mem=>sP m vs b (bif Nat.ble m b&&Pr mem b&&Nat.beq (cP b (AV.refsAll vs++cJ mem)) 0 then mem.set b none else mem)
def D3(m:Nat)(vs:List AV)(mem:aK):Option aK:=nL m vs 64 (sP m vs mem.length mem)
def wC(keep:Bool)(old:List (Option Bool))(vs:List AV)(mem0:aK):Option (List AV×aK):=
 (D3 old.length vs mem0).bind λmem=>
 let ids:=gQ mem (dL mem (old.length+(AV.refsAll vs).length)) (p0 0 old.length++AV.refsAll vs) []
 guardB (pD old mem&&dY ids&&zF 0 old.length ids) (some (AV.renAll (fU old.length keep mem ids) vs,eH old.length keep (fU old.length keep mem ids) mem 0 ids))
def AV.frz(m:Nat)(mem:aK):AV->AV
 | .msw b g=>bif Nat.ble m b then
   (match box? mem b g with
   |some x=>(match x.row with
    | .ints k xs=> .imm false (.ints k xs)
    | .pvs β e xs=> .imm β (.sl e xs)
    | .cells _ _=> .msw b g
    | .own _ _ _=> .msw b g)
   |none=> .msw b g)
  else .msw b g
 |v=>v
def AV.frzAll(m:Nat)(mem:aK):List AV->List AV
 | []=> []
 |v::r=>v.frz m mem::AV.frzAll m mem r
def mX(m:Nat)(mem:aK):AV->AV
 | .tup vs=> .tup (AV.frzAll m mem vs)
 | .agg vs=> .agg (AV.frzAll m mem vs)
 |v=>v.frz m mem
mutual
def AV.lent:AV->Bool
 | .imm β _=>β
 | .el β _ _=>β
 | .fn _ fi ca=>AV.lentAny fi||AV.lentAny ca
 | .agg cs=>AV.lentAny cs
 | .tup vs=>AV.lentAny vs
 | .lit _=>false
 | .ptr _ _ _ _=>false
 | .ms _ _ _ _=>false
 | .msw _ _=>false
def AV.lentAny:List AV->Bool
 | []=>false
 |v::r=>v.lent||AV.lentAny r
end
def mK:List (Nat×Nat×AV)->Bool
 | []=>false
 |(_,_,v)::r=>v.lent||mK r
def iL:aK->Bool
 | []=>false
 |some x::r=>(match x.row with| .cells _ cs=>AV.lentAny cs| .pvs β _ _=>β| .ints _ _=>false| .own _ _ hs=>mK hs)||iL r
 |none::r=>iL r
def iG(mem:aK)(l:LK)(v:AV):Option (AV×List Nat):=
 match v with
 | .msw _ _| .ms _ _ _ _=>(kA P mem l v).map λq=>(.imm true q.2.1,q.2.2)
 |v=>some (v,[])
def b6(mem:aK):List LK->List AV->Option (List AV×List Nat)
 | [],[]=>some ([],[])
 |l::ls,v::vs=>(iG P mem l v).bind λa=>(b6 mem ls vs).bind λr=>some (a.1::r.1,a.2++r.2)
 |_,_=>none
def Iw:List AV->Bool
 | []=>false
 | .msw _ _::_=>true
 | .ms _ _ _ _::_=>true
 |_::r=>Iw r
def lend(mem:aK)(t:TypeId)(v:AV):Option (AV×List Nat):=
 match v with
 | .msw _ _| .ms _ _ _ _=>(leaf? P t).bind λl=>iG P mem l v
 | .agg cs=>bif Iw cs then(leaves? P 8 t).bind λls=>(b6 P mem ls cs).map λr=>(.agg r.1,r.2)else some (.agg cs,[])
 |v=>some (v,[])
def gN(mem:aK):List TypeId->List AV->Option (List AV×List Nat)
 | [],[]=>some ([],[])
 |t::ts,v::r=>(lend P mem t v).bind λa=>(gN mem ts r).bind λb=>some (a.1::b.1,a.2++b.2)
 |_,_=>none
def LA(keep:Bool)(mem:aK)(ts:List TypeId)(vs:List AV):Option (List AV×List Nat):=bif keep then some (vs,[])else gN P mem ts vs
def cX(mem sub:aK)(ids:List Nat):kY:=λb g=>
  (match ids[b]? with
  |some a=>(match sub[b]?,o8 mem a with
   |some (some x),some h=>bif Nat.beq x.gen g then some (a,h+x.gen)else none
   |_,_=>none)
  |none=>bif Nat.beq g 0&&Nat.blt b sub.length then some (mem.length+(b-ids.length),0)else none)
def bI(f:kY)(mem:aK):List Nat->aK->List (Nat×bK)
 |a::ids,some x::r=>(a,{gen:=(match o8 mem a with|some h=>h+x.gen|none=>0),frz:=x.frz,row:=x.row.ren f})::bI f mem ids r
 |_::ids,none::r=>bI f mem ids r
 |_,_=> []
def e7(f:kY):aK->aK
 | []=> []
 |some x::r=>some {gen:=0,frz:=x.frz,row:=x.row.ren f}::e7 f r
 |none::r=>none::e7 f r
def gB(m:Nat):List Nat->Bool
 | []=>true
 |b::r=>Nat.blt b m&&gB m r
def Aq(C:bX)(raw keep:Bool)(g:FuncId)(ts:List TypeId)(fi args ca:List AV)(mem:aK):Option dI:=
 (LA P keep mem ts args).bind λla=>
 let all:=fi++la.1++ca
 let ids:=gQ mem (dL mem (AV.refsAll all).length) (AV.refsAll all) []
 guardB (dY ids&&w9 la.2 ids)
 ((C g (AV.renAll (fU 0 true mem ids) all) (eH 0 true (fU 0 true mem ids) mem 0 ids)).bind fun q =>
  let m:=ids.length
  let r:=bif raw then q.1 else mX m q.2 q.1
  guardB (Nat.ble m q.2.length&&(fZ la.2||!(q.1.lent||iL q.2)))
  (bif gB m r.refs && gB m (cJ (q.2.take m)) then
   some {v:=r.ren (cX mem (q.2.take m) ids),rd:=la.2++ids,wr:=bI (cX mem (q.2.take m) ids) mem ids q.2}
  else
   some {v:=q.1.ren (cX mem q.2 ids),rd:=la.2++ids,wr:=bI (cX mem q.2 ids) mem ids q.2,push:=e7 (cX mem q.2 ids) (q.2.drop m)}))
def D9(t tx:TypeId)(mem:aK)(rs:Nat)(n:Int):Option dI:=
 match P.underlying tx with
 |some (.int _)=>(elemOf? P t).bind λet=>(zero? P et).bind λz=>
  match intKind? P et with
  |none=>(vL P mem et z).bind λq=>(jR P et).bind λe=>(kT P et).bind λbytes=>
   guardB (decide (1≤n)&&Nat.ble n.toNat bJ&&(Nat.ble 1 e&&Nat.ble bytes 4096&&Nat.beq z.cells.length e&&fZ q.2.2)) (some {v:= .msw rs 0,wr:= [(rs,{gen:=0,frz:=false,row:= .pvs q.1 e (List.replicate n.toNat q.2.1)})]})
  |some _=>none
 |_=>none
def eD(boxed vars:Bool)(b:Builtin)(ts:List TypeId)(mem:aK)(rs:Nat)(args:List AV):Option dI:=
 match b,ts,args with
 | .len,[t],[x]=>(lenOf P t mem x).map λn=>{v:= .lit (.int .i64 (n.1:Int)),rd:=n.2}
 | .append,[t,tx],[.lit (.slice none 0 0),.lit (.int _ n)]=>D9 P t tx mem rs n
 | .append,[t,tx],[x,y]=>iM P boxed vars t tx mem rs x y
 | .cap,[t],[.lit (.slice none 0 0)]=>(match P.underlying t with|some (.slice _)=>some {v:= .lit (.int .i64 0)}|_=>none)
 | .min,_,.lit (.int k a)::r=>(mQ (TG k) k r a).map λv=>{v:= .lit (.int k v)}
 | .max,_,.lit (.int k a)::r=>(mQ (S2 k) k r a).map λv=>{v:= .lit (.int k v)}
 |_,_,_=>none
def vH(boxed:Bool)(rs:Nat)(v:aL):Option dI:=
 bif boxed then some {v:= .msw rs 0,wr:= [(rs,{gen:=0,frz:=false,row:=v.row})]}else v.imm?.map λa=>{v:=a}
def mM(boxed:Bool)(src dst:TypeId)(mem:aK)(rs:Nat)(x:AV):Option dI:=
 match P.underlying src,P.underlying dst,x with
 |some (.int _),some (.int k),.lit (.int _ n)=>some {v:= .lit (.int k (k.wrap n))}
 |some .string,some .string,.lit (.string s)=>some {v:= .lit (.string s)}
 |some (.slice e),some .string,x=>
  match P.underlying e with
  |some (.int .u8)=>(view P e mem x).bind λv=>guardB (z8 P src x&&(match jR P e with|some 1=>true|_=>false))<|
   match v.1 with
   | .ints .u8 xs=>some {v:= .lit (.string (qW xs)),rd:=v.2}
   |_=>none
  |_=>none
 |some (.slice _),some (.slice e),.msw b g=>
  match P.underlying e with
  |some (.int .u8)=>guardB (Nat.beq src dst) ((box? mem b g).bind λx=>guardB (Nat.ble 1 x.row.len) (some {v:= .msw b g,rd:= [b]}))
  |_=>none
 |_,_,_=>none
def Jb(c a b:AV):Option AV:=
 match c with
 | .lit (.bool t)=>
  match a,b with
  | .lit (.bool x),.lit (.bool y)=>some (.lit (.bool (bif t then x else y)))
  |_,_=>bif t then some a else some b
 |_=>none
def GP(ρ:Operand->Option AV)(c a b:Operand):Option dI:=
 (ρ c).bind λc=>(ρ a).bind λa=>(ρ b).bind λb=>(Jb c a b).map λv=>{v}
def Ca(rs:Nat)(t:TypeId):Option dI:=
 (zero? P t).bind λz=>guardB (Nat.ble 1 z.cells.length&&jX z.cells) (some {v:= .ptr rs 0 0 0,wr:= [(rs,{gen:=0,frz:=false,row:= .cells 1 z.cells})]})
def L3(ρ:Operand->Option AV)(rs:Nat)(t:TypeId)(x:Operand):Option dI:=
 (ρ x).bind λv=>(jR P t).bind λn=>guardB (Nat.beq v.cells.length n&&Nat.ble 1 n&&jX v.cells) (some {v:= .ptr rs 0 0 0,wr:= [(rs,{gen:=0,frz:=false,row:= .cells 1 v.cells})]})
def Bc(ρ:Operand->Option AV)(t:TypeId)(parts:Array (Nat×Operand)):Option dI:=
 (lT ρ parts.toList).bind λps=>(C1 P t ps).map λv=>{v}
def f6(boxed vars:Bool)(ρ:Operand->Option AV)(mem:aK)(rs:Nat)(t:TypeId)(len:Nat)(parts:Array (Nat×Operand)):Option dI:=
 (elemOf? P t).bind λet=>(zero? P et).bind λz=>(jR P et).bind λs=>(lT ρ parts.toList).bind λps=>
   guardB (pV len ps&&Nat.ble len 4096&&Nat.ble 1 s&&Nat.ble s 4096&&nG s (z::ps.map (·.2))) ((oL P vars mem et (nZ (List.replicate len z) ps)).bind λw=>guardB (Nat.beq w.1.e s)<|
    (vH (boxed || Nat.beq len 0) rs w.1).map fun o => { v := o.v, rd := w.2, wr := cA mem w.2 ++ o.wr })
def zL(ρ:Operand->Option AV)(mem:aK)(t:TypeId)(a x:Operand):Option dI:=
 (ρ a).bind λa=>(ρ x).bind λx=>jV P t mem a x
def Ml(ρ:Operand->Option AV)(x:Operand):Option dI:=
 (ρ x).bind λv=>
  match v with
  | .ptr b g i c=>some {v}
  | .el β p c=>some {v}
  | .fn (.func f) fi ca=>some {v}
  |_=>none
def Lu(ρ:Operand->Option AV)(op:BinOp)(t:TypeId)(x y:Operand):Option dI:=
 (ρ x).bind λx=>(ρ y).bind λy=>(vN P op t x y).map λv=>{v}
def RJ(ρ:Operand->Option AV)(op:UnOp)(x:Operand):Option dI:=
 (ρ x).bind λx=>
  match x with
  | .lit a=>(IC op a).map λv=>{v:= .lit v}
  |_=>none
def G9(ρ:Operand->Option AV)(fn:Fn)(first cap:Array Operand):Option dI:=
 (oZ ρ first.toList).bind λfi=>(oZ ρ cap.toList).map λca=>{v:= .fn fn fi ca}
def Cs(boxed:Bool)(ρ:Operand->Option AV)(mem:aK)(rs:Nat)(t:TypeId)(l c:Operand):Option dI:=
 (elemOf? P t).bind λet=>(zero? P et).bind λz=>(ρ l).bind λl=>(ρ c).bind λc=>
  match l,c with
  | .lit (.int _ n),.lit (.int _ n')=>guardB (n==n'&&decide (0≤n)&&Nat.ble n.toNat bJ) (
    match intKind? P et with
    |some k=>(jR P et).bind λe=>(kT P et).bind λbytes=>(fM k [z]).bind λzs=>guardB (Nat.beq e 1&&Nat.ble bytes 4096) (vH boxed rs (.ints k (List.replicate n.toNat (zs.headD 0))))
    |none=>(vL P mem et z).bind λq=>(jR P et).bind λe=>(kT P et).bind λbytes=>
      guardB (Nat.ble 1 e&&Nat.ble bytes 4096&&Nat.beq z.cells.length e&&fZ q.2.2) (vH boxed rs (.pvs q.1 e (List.replicate n.toNat q.2.1))))
  |_,_=>none
def y5(ρ:Operand->Option AV)(mem:aK)(t:TypeId)(x:Operand)(lo hi mx:Option Operand):Option dI:=
 (ρ x).bind λx=>(BQ ρ lo).bind λlo=>(BQ ρ hi).bind λhi=>(BQ ρ mx).bind λmx=>gL P t mem x lo hi mx
def mJ(ρ:Operand->Option AV)(s:TypeId)(x:Operand)(f:Nat):Option dI:=
 (ρ x).bind λx=>(mN P s f).bind λq=>
  match x with
  | .ptr b g i c=>some {v:= .ptr b g i (c+q.1)}
  | .el β p c=>some {v:= .el β p (c+q.1)}
  |_=>none
def BA(ρ:Operand->Option AV)(s:TypeId)(x:Operand)(f:Nat):Option dI:=
 (ρ x).bind λx=>(mN P s f).bind λq=>
  match x with
  | .agg cs=>(isAgg? P q.2.2).bind λag=>bif ag then guardB (Nat.ble (q.1+q.2.1) cs.length) (some {v:= .agg ((cs.drop q.1).take q.2.1)})else(cs[q.1]?).map λv=>{v}
  |_=>none
def zN(ρ:Operand->Option AV)(mem:aK)(t:TypeId)(x ix:Operand):Option dI:=
 (ρ x).bind λx=>(ρ ix).bind λix=>
  match ix with
  | .lit (.int _ i)=>iY P t mem x i
  |_=>none
def rC(ρ:Operand->Option AV)(t:TypeId)(x ix:Operand):Option dI:=
 (ρ x).bind λx=>(ρ ix).bind λix=>
  match x,ix with
  | .agg cs,.lit (.int _ i)=>
   match P.underlying t with
   |some (.array n e)=>(isAgg? P e).bind λag=>(jR P e).bind λs=>guardB (!ag&&Nat.beq s 1&&decide (0≤i)&&decide (i<(n:Int))) ((cs[i.toNat]?).map λv=>{v})
   |_=>none
  | .lit (.string s),.lit (.int _ i)=>
   match P.underlying t with
   |some .string=>(aM (dZ s) i).map λn=>{v:= .lit (.int .u8 n)}
   |_=>none
  |_,_=>none
def qP(ρ:Operand->Option AV)(t:Operand)(ix:Nat):Option dI:=
 (ρ t).bind λt=>
  match t with
  | .tup vs=>(vs[ix]?).map λv=>{v}
  |_=>none
def Dh(C:bX)(boxed raw vars:Bool)(ρ:Operand->Option AV)(mem:aK)(rs:Nat)(c:Call):Option dI:=
 (oZ ρ c.args.toList).bind λargs=>
  match c.callee with
  | .builtin b=>eD P boxed vars b c.argTypes.toList mem rs args
  | .value f=>(ρ f).bind λf=>
   match f with
   | .fn (.func g) fi ca=>Aq P C raw vars g c.argTypes.toList fi args ca mem
   |_=>none
  | .invoke _ _=>none
def kI:Operand->Bool
 | .const (.slice none 0 0)=>true
 |_=>false
def rS(t:TypeId):Option PV:=
 (elemOf? P t).bind λet=>
 match intKind? P et with
 |some k=>some (.ints k [])
 |none=>(jR P et).bind λe=>guardB (Nat.ble 1 e) (some (.sl e []))
def KH:PV->Option aZ
 | .ints k xs=>some (.ints k xs)
 | .sl e xs=>some (.pvs false e xs)
 |_=>none
def x5(boxed vars:Bool)(ρ:Operand->Option AV)(t:TypeId)(rs:Nat)(x:Operand):Option dI:=
 bif kI x&&boxed&&!vars then(rS P t).bind λp=>(KH p).map λrow=>{v:= .msw rs 0,wr:= [(rs,{gen:=0,frz:=false,row})]}
 else(ρ x).bind λv=>
  match v with
  | .lit (.slice none 0 0)=>bif boxed then some {v}else(rS P t).map λp=>{v:= .imm false p}
  |v=>some {v}
def OV(C:bX)(boxed raw vars:Bool)(o:Oper)(ρ:Operand->Option AV)(mem:aK)(rs:Nat):Option dI:=
 match o.op with
 | .move x=>x5 P boxed vars ρ o.type rs x
 | .assign x=>x5 P boxed vars ρ o.type rs x
 | .pick c a b=>GP ρ c a b
 | .alloc t=>Ca P rs t
 | .box t x=>L3 P ρ rs t x
 | .build t parts=>Bc P ρ t parts
 | .buildSlice t len parts=>f6 P boxed vars ρ mem rs t len parts
 | .load t a=>(ρ a).bind λa=>jY P t mem a
 | .store t a x=>zL P ρ mem t a x
 | .nilCheck x=>Ml ρ x
 | .binOp op t x y _=>Lu P ρ op t x y
 | .unOp op _ x=>RJ ρ op x
 | .convert src dst x=>(ρ x).bind λx=>mM P boxed src dst mem rs x
 | .makeFunc fn first cap=>G9 ρ fn first cap
 | .makeSlice t l c=>Cs P boxed ρ mem rs t l c
 | .slice t x lo hi mx=>y5 P ρ mem t x lo hi mx
 | .fieldAddr s x f=>mJ P ρ s x f
 | .field s x f=>BA P ρ s x f
 | .indexAddr t x ix=>zN P ρ mem t x ix
 | .index t x ix=>rC P ρ t x ix
 | .extract t ix=>qP ρ t ix
 | .call c=>Dh P C boxed raw vars ρ mem rs c
 |_=>none
def yT(mem:aK)(b:Nat):Bool:=
 match mem[b]? with
 |some (some x)=>x.row.isOwn
 |_=>false
def A0(mem:aK):AV->Bool
 | .msw b _=>yT mem b
 | .ms b _ _ _=>yT mem b
 |_=>false
def JQ(mem:aK):AV->Bool
 | .msw b _=>yT mem b
 |_=>false
def Js(mem:aK):AV->Bool
 | .ptr b _ _ _=>yT mem b
 |_=>false
def Bz(c:Nat):List (Nat×Nat×AV)->List (Nat×Nat×AV)
 | []=> []
 |(i,c',v)::r=>bif Nat.beq c c' then r else(i,c',v)::Bz c r
def cW:PV->Option aZ
 | .ints k ys=>some (.ints k ys)
 | .sl e ys=>guardB (Nat.ble 1 e) (some (.pvs false e ys))
 |_=>none
def pJ(tk:Bool)(xs:List PV)(i c:Nat)(l:LK)(hs:List (Nat×Nat×AV))(nb:Nat):Option (AV×List (Nat×Nat×AV)×List aZ):=
 (xs[i]?).bind λp=>(p.cells[c]?).bind λy=>
 match k8 c hs with
 |some h=>guardB (Nat.beq i h.1) (some (h.2,hs,[]))
 |none=>bif AB l then(gJ true l y).map λv=>(v,hs,[])
  else guardB tk ((cW y).map λrow=>(.msw nb 0,(i,c,.msw nb 0)::hs,[row]))
def qH(tk:Bool)(xs:List PV)(i:Nat):List LK->Nat->List (Nat×Nat×AV)->Nat->Option (List AV×List (Nat×Nat×AV)×List aZ)
 | [],_,hs,_=>some ([],hs,[])
 |l::ls,c,hs,nb=>(pJ tk xs i c l hs nb).bind λa=>(qH tk xs i ls (c+1) a.2.1 (nb+a.2.2.length)).map λq=>(a.1::q.1,q.2.1,a.2.2++q.2.2)
def e6:List aZ->aK
 | []=> []
 |r::rs=>some {gen:=0,frz:=false,row:=r}::e6 rs
def BW(b e:Nat)(bx:bK)(xs:List PV)(v:AV)(q:List (Nat×Nat×AV)×List aZ):dI:=
 match q.2 with
 | []=>{v,rd:= [b]}
 |rows=>{v,rd:= [b],wr:= [(b,{bx with row:= .own e xs q.1})],push:=e6 rows}
def Ce(tk:Bool)(t:TypeId)(mem:aK)(a:AV):Option dI:=
 match a with
 | .ptr b g i c=>(boxO? mem b g).bind λbx=>
  match bx.row with
  | .own e xs hs=>
   match isAgg? P t with
   |some false=>(leaf? P t).bind λl=>(pJ tk xs i c l hs mem.length).map λq=>BW b e bx xs q.1 q.2
   |some true=>(leaves? P 8 t).bind λls=>(jR P t).bind λn=>guardB (Nat.beq n ls.length) ((qH tk xs i ls c hs mem.length).map λq=>BW b e bx xs (.agg q.1) q.2)
   |none=>none
  |_=>none
 |_=>none
def FO:Value->Value->Bool
 | .int k _,.int k' _=>iK k k'
 | .bool _,.bool _=>true
 | .string _,.string _=>true
 |_,_=>false
def B7:PV->Option PV
 | .ints k _=>some (.ints k [])
 | .sl e _=>guardB (Nat.ble 1 e) (some (.sl e []))
 |_=>none
def Eu(i c:Nat)(hs:List (Nat×Nat×AV)):Option (List (Nat×Nat×AV)):=
 match k8 c hs with
 |none=>some hs
 |some h=>guardB (Nat.beq i h.1&&(k8 c (Bz c hs)).isNone) (some (Bz c hs))
def nA(t:TypeId)(mem:aK)(a x:AV):Option dI:=
 match a with
 | .ptr b g i c=>(boxO? mem b g).bind λbx=>
  match bx.row with
  | .own e xs hs=>(jR P t).bind λn=>guardB (Nat.beq n 1&&!bx.frz&&KB x) ((xs[i]?).bind λp=>(p.cells[c]?).bind λy=>
   match y,x with
   | .lit u,.lit v=>guardB (FO u v&&(k8 c hs).isNone) (some {v:= .lit undef,rd:= [b],wr:= [(b,{bx with row:= .own e (xs.set i (jZ p c (.lit v))) hs})]})
   | .lit _,_=>none
   |y,.lit (.slice none 0 0)=>(B7 y).bind λy'=>(Eu i c hs).map λhs'=>{v:= .lit undef,rd:= [b],wr:= [(b,{bx with row:= .own e (xs.set i (jZ p c y')) hs'})]}
   |y,.lit _=>none
   |y,x=>(Eu i c hs).map λhs'=>{v:= .lit undef,rd:= [b],wr:= [(b,{bx with row:= .own e xs ((i,c,x)::hs')})]})
  |_=>none
 |_=>none
def MC(t:TypeId)(mem:aK)(x:AV):Option dI:=
 match P.underlying t,x with
 |some (.slice _),.msw b g=>(boxO? mem b g).map λbx=>{v:= .lit (.int .i64 (bx.row.len:Int)),rd:= [b]}
 |_,_=>none
def sC(t:TypeId)(mem:aK)(x:AV)(i:Int):Option dI:=
 match P.underlying t with
 |some (.slice et)=>(jR P et).bind λs=>
  match x with
  | .ms b g o n=>(boxO? mem b g).bind λbx=>guardB (Nat.beq s bx.row.e&&decide (0≤i)&&decide (i<(n:Int))) (some {v:= .ptr b g (o+i.toNat) 0,rd:= [b]})
  | .msw b g=>(boxO? mem b g).bind λbx=>guardB (Nat.beq s bx.row.e&&decide (0≤i)&&decide (i<(bx.row.len:Int))) (some {v:= .ptr b g i.toNat 0,rd:= [b]})
  |_=>none
 |_=>none
def sH(t:TypeId)(mem:aK)(x:AV)(lo hi mx:Option Int):Option dI:=
 match P.underlying t with
 |some (.slice et)=>(jR P et).bind λs=>
  match x with
  | .ms b g o n=>(boxO? mem b g).bind λbx=>guardB (Nat.beq s bx.row.e) ((iA n lo hi mx).map λq=>{v:= .ms b g (o+q.1) (q.2-q.1),rd:= [b]})
  | .msw b g=>(boxO? mem b g).bind λbx=>guardB (Nat.beq s bx.row.e) ((iA bx.row.len lo hi mx).map λq=>{v:= .ms b g q.1 (q.2-q.1),rd:= [b]})
  |_=>none
 |_=>none
def B8(l:LK)(v:AV)(j c:Nat):Option (PV×List (Nat×Nat×AV)):=
 match l,v with
 | .int k,.lit (.int k' x)=>guardB (iK k k') (some (.lit (.int k' x),[]))
 | .bool,.lit (.bool b)=>some (.lit (.bool b),[])
 | .str,.lit (.string s)=>some (.lit (.string s),[])
 | .ints k,.lit (.slice none 0 0)=>some (.ints k [],[])
 | .sl _ e,.lit (.slice none 0 0)=>guardB (Nat.ble 1 e) (some (.sl e [],[]))
 | .ints k,.msw b g=>some (.ints k [],[(j,c,.msw b g)])
 | .ints k,.ms b g o n=>some (.ints k [],[(j,c,.ms b g o n)])
 | .sl _ e,.msw b g=>guardB (Nat.ble 1 e) (some (.sl e [],[(j,c,.msw b g)]))
 | .sl _ e,.ms b g o n=>guardB (Nat.ble 1 e) (some (.sl e [],[(j,c,.ms b g o n)]))
 |_,_=>none
def QE:List LK->List AV->Nat->Nat->Option (List PV×List (Nat×Nat×AV))
 | [],[],_,_=>some ([],[])
 |l::ls,v::vs,j,c=>(B8 l v j c).bind λa=>(QE ls vs j (c+1)).map λq=>(a.1::q.1,a.2++q.2)
 |_,_,_,_=>none
def Fw(t:TypeId)(ls:List LK):List (List AV)->Nat->Option (List PV×List (Nat×Nat×AV))
 | [],_=>some ([],[])
 |cs::r,j=>(QE ls cs j 0).bind λa=>(wQ P t a.1).bind λp=>(Fw t ls r (j+1)).map λq=>(p::q.1,a.2++q.2)
def mC(n:Nat):List (Nat×Nat×AV)->Bool
 | []=>true
 |(i,_,_)::r=>Nat.blt i n&&mC n r
def nD(own:Bool)(t tx:TypeId)(mem:aK)(rs:Nat)(x y:AV):Option dI:=
 (elemOf? P t).bind λet=>(jR P et).bind λs=>(kT P et).bind λbytes=>(zero? P et).bind λz=>(leaves? P 8 et).bind λls=>
 (view P et mem y).bind λyv=>
 match yv.1 with
 | .avs e cs=>guardB (Nat.beq s e&&z8 P tx y&&Nat.ble bytes 4096&&Nat.ble 1 s&&Nat.beq z.cells.length s&&Nat.beq ls.length s&&jX cs)
  (match x with
  | .lit (.slice none 0 0)=>guardB own ((Fw P et ls (chunks s (aR s cs.length) cs) 0).bind λq=>guardB (Nat.ble 1 q.1.length&&Nat.ble q.1.length bJ)
    (some { v := .msw rs 0, rd := yv.2, wr := [(rs, { gen := 0, frz := false, row := .own s q.1 q.2 })] }))
  | .msw b g=>(boxO? mem b g).bind λbx=>match bx.row with
   | .own e' xs hs=>(Fw P et ls (chunks s (aR s cs.length) cs) xs.length).bind λq=>guardB (!bx.frz&&Nat.beq s e'&&mC xs.length hs&&Nat.ble (xs++q.1).length bJ)
     (some {v:= .msw b (g+1),rd:=b::yv.2,wr:= [(b,{gen:=g+1,frz:=false,row:= .own e' (xs++q.1) (hs++q.2)})]})
   |_=>none
  | .ms b g 0 n=>(boxO? mem b g).bind λbx=>match bx.row with
   | .own e' xs hs=>(Fw P et ls (chunks s (aR s cs.length) cs) n).bind λq=>guardB (!bx.frz&&Nat.beq s e'&&Nat.ble n xs.length&&mC n hs&&Nat.ble (xs.take n++q.1).length bJ)
     (some {v:= .msw b (g+1),rd:=b::yv.2,wr:= [(b,{gen:=g+1,frz:=false,row:= .own e' (xs.take n++q.1) (hs++q.2)})]})
   |_=>none
  |_=>none)
 |_=>none
def Jj(ρ:Operand->Option AV)(mem:aK)(rs:Nat)(t:TypeId)(l c:Operand):Option dI:=
 (elemOf? P t).bind λet=>(zero? P et).bind λz=>(ρ l).bind λl=>(ρ c).bind λc=>(leaves? P 8 et).bind λls=>
  match l,c with
  | .lit (.int _ n),.lit (.int _ n')=>guardB (n==n'&&decide (0≤n)&&Nat.ble n.toNat bJ) (
    (QE ls z.cells 0 0).bind λa=>(wQ P et a.1).bind λp=>(jR P et).bind λe=>(kT P et).bind λbytes=>
      guardB (Nat.ble 1 e&&Nat.ble bytes 4096&&Nat.beq z.cells.length e&&jX z.cells&&(match a.2 with| []=>true|_=>false)) (some {v:= .msw rs 0,wr:= [(rs,{gen:=0,frz:=false,row:= .own e (List.replicate n.toNat p) []})]}))
  |_,_=>none
def CA(ρ:Operand->Option AV)(mem:aK)(rs:Nat)(t:TypeId)(len:Nat)(parts:Array (Nat×Operand)):Option dI:=
 (elemOf? P t).bind λet=>(zero? P et).bind λz=>(jR P et).bind λs=>(lT ρ parts.toList).bind λps=>(leaves? P 8 et).bind λls=>
   guardB (pV len ps&&Nat.ble len 4096&&Nat.ble 1 s&&Nat.ble s 4096&&nG s (z::ps.map (·.2))&&Nat.beq ls.length s&&Nat.ble 1 len) ((Fw P et ls ((nZ (List.replicate len z) ps).map (·.cells)) 0).bind λq=>
    guardB (jX (iJ (nZ (List.replicate len z) ps))) (some {v:= .msw rs 0,wr:= [(rs,{gen:=0,frz:=false,row:= .own s q.1 q.2})]}))
def Iv(t:TypeId)(rs:Nat):Option dI:=
 (elemOf? P t).bind λet=>(jR P et).bind λe=>guardB (Nat.ble 1 e) (some {v:= .msw rs 0,wr:= [(rs,{gen:=0,frz:=false,row:= .own e [] []})]})
def mP(own:Bool)(b:Builtin)(ts:List TypeId)(mem:aK)(rs:Nat)(args:List AV):Option dI:=
 match b,ts,args with
 | .len,[t],[x]=>MC P t mem x
 | .append,[t,tx],[x,y]=>nD P own t tx mem rs x y
 |_,_,_=>none
def m7(ρ:Operand->Option AV)(p:AV->Bool)(x:Operand):Bool:=
 match ρ x with
 |some v=>p v
 |none=>false
def bQ(own:Bool)(ρ:Operand->Option AV)(mem:aK):Op->Bool
 | .move x=>own&&kI x
 | .assign x=>own&&kI x
 | .buildSlice _ _ _=>own
 | .makeSlice _ _ _=>own
 | .load _ a=>m7 ρ (Js mem) a
 | .store _ a _=>m7 ρ (Js mem) a
 | .slice _ x _ _ _=>m7 ρ (A0 mem) x
 | .indexAddr _ x _=>m7 ρ (A0 mem) x
 | .call c=>(match c.callee,c.args.toList with
  | .builtin .len,[x]=>m7 ρ (JQ mem) x
  | .builtin .append,[x,_]=>own||m7 ρ (A0 mem) x
  |_,_=>false)
 |_=>false
def Ic(own tk:Bool)(o:Oper)(ρ:Operand->Option AV)(mem:aK)(rs:Nat):Option dI:=
 match o.op with
 | .move _=>Iv P o.type rs
 | .assign _=>Iv P o.type rs
 | .buildSlice t len parts=>CA P ρ mem rs t len parts
 | .makeSlice t l c=>Jj P ρ mem rs t l c
 | .load t a=>(ρ a).bind λa=>Ce P tk t mem a
 | .store t a x=>(ρ a).bind λa=>(ρ x).bind λx=>nA P t mem a x
 | .slice t x lo hi mx=>(ρ x).bind λx=>(BQ ρ lo).bind λlo=>(BQ ρ hi).bind λhi=>(BQ ρ mx).bind λmx=>sH P t mem x lo hi mx
 | .indexAddr t x ix=>(ρ x).bind λx=>(ρ ix).bind λix=>
  match ix with
  | .lit (.int _ i)=>sC P t mem x i
  |_=>none
 | .call c=>(oZ ρ c.args.toList).bind λargs=>
  match c.callee with
  | .builtin b=>mP P own b c.argTypes.toList mem rs args
  |_=>none
 |_=>none
def Ii(C:bX)(own tk boxed raw vars:Bool)(o:Oper)(ρ:Operand->Option AV)(mem:aK)(rs:Nat):Option dI:=
 bif bQ own ρ mem o.op then Ic P own tk o ρ mem rs else OV P C boxed raw vars o ρ mem rs
structure Tr where
 i:Nat
 rd:List Nat
 wr:List Nat
 push:Bool
 rc:Bool
 wk:Nat->Bool
def o9:AV->Option (Nat×Nat×Nat×Nat)
 | .ptr b g i c=>some (b,g,i,c)
 |_=>none
def iP(x:bK):Option (Nat×Nat×List (Option (Nat×Nat×Nat×Nat))):=
 match x.row with
 | .cells e cs=>some (x.gen,e,cs.map o9)
 |_=>none
def a8(mem:aK)(b:Nat):Option (Nat×Nat×List (Option (Nat×Nat×Nat×Nat))):=
 match mem[b]? with
 |some (some x)=>iP x
 |_=>none
def U8(x y:Option (Nat×Nat×Nat×Nat)):Bool:=
 match x,y with
 |none,none=>true
 |some (a,b,c,d),some (a',b',c',d')=>Nat.beq a a'&&Nat.beq b b'&&Nat.beq c c'&&Nat.beq d d'
 |_,_=>false
def Tm:List (Option (Nat×Nat×Nat×Nat))->List (Option (Nat×Nat×Nat×Nat))->Bool
 | [],[]=>true
 |x::xs,y::ys=>U8 x y&&Tm xs ys
 |_,_=>false
def Jp(x y:Option (Nat×Nat×List (Option (Nat×Nat×Nat×Nat)))):Bool:=
 match x,y with
 |some (g,e,l),some (g',e',l')=>Nat.beq g g'&&Nat.beq e e'&&Tm l l'
 |_,_=>false
def rE(mem:aK)(wr:List (Nat×bK))(b:Nat):Bool:=wr.all λq=>!(Nat.beq q.1 b)||Jp (iP q.2) (a8 mem b)
def NI:Op->Bool
 | .load _ _=>true
 |_=>false
def Qd(op:Op)(mem:aK)(v:AV)(rd:List Nat):Bool:=
 NI op&&(match o9 v with|some _=>true|none=>false)&&(match rd with| [b]=>(match a8 mem b with|some _=>true|none=>false)|_=>false)
def M6(L:Nat)(all:List Tr)(b:Nat):Bool:=Nat.blt b L&&all.all λu=>!(eC b u.wr)||u.wk b
def Ie(L:Nat)(all:List Tr)(t:Tr):Tr:=bif t.rc&&(match t.rd with| [b]=>M6 L all b|_=>false)then{t with rd:= []}else t
variable [cF]
def Fo(tmps:List AV)(t:Nat):Option AV:=(eO tmps t).bind λv=>bif gK v then none else some v
def cC(tmps:List AV):Operand->Option AV
 | .tmp t=>Fo tmps t
 | .const v=>Aj v
 | .func f=>some (.fn (.func f) [] [])
 | .global g=>(cF.tab g).map λq=> .el true (.agg [.lit (.int .i64 q.1),.lit (.int .i64 q.2)]) 0
def nM(tmps:List AV)(dst:Option Tmp)(v:AV):List AV:=
 match dst with
 |some d=>s6 v tmps d
 |none=>tmps
def eE:Op->Bool
 | .move x| .assign x=>kI x
 | .alloc _| .box _ _| .buildSlice _ _ _| .convert _ _ _| .makeSlice _ _ _=>true
 | .call {callee:= .builtin .append,..}=>true
 |_=>false
def pX:List Oper->Nat
 | []=>0
 |o::r=>(bif eE o.op then 1 else 0)+pX r
def Aa(mem:aK)(rs:Nat):Bool:=
 match mem[rs]? with
 |some none=>true
 |_=>false
def OX:Option bK->Bool
 |none=>true
 |some _=>false
def trim:aK->aK
 | []=> []
 |x::r=>match trim r with
  | []=>bif OX x then []else [x]
  |y=>x::y
def dI.tr(mk:Bool)(rs:Nat)(o:dI)(i:Nat)(op:Op)(mem:aK):Tr:={i,rc:=Qd op mem o.v o.rd,wk:=rE mem o.wr,rd:=o.rd,wr:=bif mk then rs::o.wr.map (·.1)else o.wr.map (·.1),push:=match o.push with| []=>false|_=>true}
variable {R:Type}
def CZ(a b:Nat):List (Nat×Nat×Int)->Option Int
 | []=>none
 |(m,x,v)::r=>bif Nat.beq m a&&Nat.beq x b then some v else CZ a b r
def AG(h:Option Int)(v:AV)(k:AV->Option R):Option R:=
 match h with
 |none=>k v
 |some x=>match v with
  | .lit (.int kd y)=>guardB (decide (y=x)) (k (.lit (.int kd x)))
  | .lit (.bool b)=>bif decide (x=0)then guardB (!b) (k (.lit (.bool false)))else guardB b (k (.lit (.bool true)))
  |v=>k v
def vM(C:bX)(an:nB)(tk:Bool)(rid:Nat)(ds:List (Option Tmp)):List Oper->Nat->Nat->St->List Tr->(St->List Tr->Option R)->Option R
 | [],_,_,st,tr,k=>k st tr
 |o::rest,i,rs,st,tr,k=>
  let rs':=bif eE o.op then rs+1 else rs
  let run (st:St):Option R:=guardB (bif eE o.op then Aa st.mem rs else true) ((Ii P C (bG rid i an.own) tk (bG rid i an.boxed) (bG rid i an.raw) (bG rid i an.vars) o (cC st.tmps) st.mem rs).bind λout=>
   AG (CZ rid i an.hint) out.v λv=>vM C an tk rid ds rest (i+1) rs' {tmps:=nM st.tmps o.dst v,mem:=out.apply st.mem} (out.tr (eE o.op) rs i o.op st.mem::tr) k)
  let skip (st:St):Option R:=vM C an tk rid ds rest (i+1) rs' {tmps:=nM st.tmps o.dst (.lit undef),mem:=st.mem} tr k
  match o.guard with
  |none=>run st
  |some (j,want)=>
   match ds[j]? with
   |some (some d)=>
    match eO st.tmps d with
    |some (.lit (.bool b))=>
     bif b then(bif want then run else skip) {st with tmps:=s6 (.lit (.bool true)) st.tmps d}
     else(bif want then skip else run) {st with tmps:=s6 (.lit (.bool false)) st.tmps d}
    |some (.lit (.tuple _))=>skip st
    |_=>none
   |_=>none
def Cq(acc:List Nat):List Edge->Nat
 | []=>0
 |e::r=>bif Region.binds .any e then 2 ^ e.on ||| acc.getD e.on 0 ||| Cq acc r else Cq acc r
def x9:List Oper->List Nat->List Nat
 | [],acc=>acc
 |o::r,acc=>x9 r (acc++ [Cq acc o.after.toList])
def BU(i:Nat):List Edge->Bool
 | []=>true
 |e::r=>(!(Region.binds .any e)||Nat.blt e.on i)&&BU i r
def kB:List Oper->Nat->Bool
 | [],_=>true
 |o::r,i=>BU i o.after.toList&&kB r (i+1)
def c9(bs:List Nat)(i j:Nat):Bool:=(bs.getD j 0).testBit i||(bs.getD i 0).testBit j
def Cc(ops:Array Oper)(i j:Nat):Bool:=
 match ops[i]?,ops[j]? with
 |some x,some y=>x.apart ops y
 |_,_=>false
def SJ(bs:List Nat)(L:Nat)(a:Tr):List Tr->Bool
 | []=>true
 |b::r=>(c9 bs a.i b.i||(!(a.push&&b.push)&&w9 a.wr b.rd&&w9 a.rd b.wr&&w9 a.wr b.wr&&(!a.push||(gB L b.rd&&gB L b.wr))&&(!b.push||(gB L a.rd&&gB L a.wr))))&&SJ bs L a r
def Pl(bs:List Nat)(L:Nat):List Tr->Bool
 | []=>true
 |a::r=>SJ bs L a r&&Pl bs L r
def mO(o:Oper):Bool:=
 match o.op with
 | .call c=>(match c.callee with| .builtin _=>false|_=>true)
 |_=>false
def yY(bs:List Nat)(i:Nat):List Oper->Nat->Bool
 | [],_=>true
 |o::r,j=>(Nat.beq i j||c9 bs i j||!(mO o))&&yY bs i r (j+1)
def Jy(ops:Array Oper)(bs:List Nat):List Tr->Bool
 | []=>true
 |a::r=>(!a.push||yY bs a.i ops.toList 0)&&Jy ops bs r
def BS(ops:Array Oper)(bs:List Nat)(i:Nat):List Nat->Bool
 | []=>true
 |j::r=>(c9 bs i j||Cc ops i j)&&BS ops bs i r
def Cm(ops:Array Oper)(bs:List Nat):List Nat->Bool
 | []=>true
 |i::r=>BS ops bs i r&&Cm ops bs r
def JI(ops:Array Oper)(L:Nat)(tr:List Tr):Bool:=
 let bs:=x9 ops.toList []
 kB ops.toList 0&&Pl bs L (tr.map (Ie L tr))&&Jy ops bs tr&&Cm ops bs (p0 0 ops.size)
def jM(C:bX)(an:nB)(rid:Nat)(ops:Array Oper)(draw:Bool)(st:St)(k:St->Option R):Option R:=
 vM P C an (!draw) rid (ops.toList.map (·.dst)) ops.toList 0 st.mem.length {st with mem:=st.mem++List.replicate (pX ops.toList) none} [] λst' tr=>
  guardB (!draw||JI ops (st.mem.length+pX ops.toList) tr) (k {st' with mem:=trim st'.mem})
inductive Ex where
 |normal|exit (id:Nat)|ret|goto (l:Nat)
def bP(live:List Nat):List AV->Nat->List AV
 | [],_=> []
 |v::r,i=>(bif eC i live then v else .goneV)::bP live r (i+1)
def LW(keep:Bool)(old:List (Option Bool))(live:List Nat)(st:St):Option St:=
 (wC keep old (bP live st.tmps 0) st.mem).map λq=>{tmps:=q.1,mem:=q.2}
def kK(keep:Bool)(old:List (Option Bool))(live:List Nat)(body:St->(Ex->St->Option R)->Option R):Nat->St->(Ex->St->Option R)->Option R
 |0,_,_=>none
 |n+1,st,k=>(LW keep old live st).bind λst1=>body st1 λe st'=>
  match e with
  | .normal=>kK keep old live body n st' k
  | .exit id=>k (.exit id) st'
  | .ret=>k .ret st'
  | .goto l=>k (.goto l) st'
def RZ(mem:aK)(off:Nat):AV->Option AV
 | .ptr b g i c=>(box? mem b g).bind λx=>match x.row with
  | .cells e cs=>cs[i*e+c+off]?
  |_=>none
 |v=>some v
def GA(mem:aK)(s:AV)(n c:Nat):Option aK:=
 match s with
 | .msw b g=>(boxO? mem b g).bind λbx=>match bx.row with
  | .own e xs hs=>(pJ true xs n c (.sl 0 0) hs mem.length).map λr=>mem.set b (some {bx with row:= .own e xs r.2.1})++e6 r.2.2
  |_=>none
 |_=>none
def CM(mem:aK)(off:Nat):AV->Option aK
 | .ptr b g i c=>(box? mem b g).bind λx=>match x.row with
  | .cells e cs=>(match cs[i*e+c+off]? with
   |some (.msw b1 g1)=>(box? mem b1 g1).map λy=>mem.set b (some {gen:=x.gen,frz:=x.frz,row:= .cells e (cs.set (i*e+c+off) (.ms b1 g1 0 y.row.len))})
   |_=>some mem)
  |_=>none
 |_=>none
def My(tmps:List AV)(mem:aK)(q:Operand×Nat×Operand×Nat):Option aK:=
 (cC tmps q.1).bind λp=>bif Nat.beq q.2.2.2 999 then CM mem q.2.1 p else(RZ mem q.2.1 p).bind λs=>(cC tmps q.2.2.1).bind λv=>
  match v with
  | .lit (.int _ n)=>guardB (decide (0≤n)) (GA mem s n.toNat q.2.2.2)
  |_=>none
def CO(tmps:List AV):List (Operand×Nat×Operand×Nat)->aK->Option aK
 | [],mem=>some mem
 |q::r,mem=>(My tmps mem q).bind λmem'=>CO tmps r mem'
def z5(an:nB)(rid:Nat)(old:List (Option Bool))(st:St):Option St:=
 match dB rid an.tidy with
 |none=>some st
 |some q=>(D3 old.length (bP q.1 st.tmps 0) st.mem).bind λmem=>(CO (bP q.1 st.tmps 0) q.2 mem).map λmem'=>{tmps:=bP q.1 st.tmps 0,mem:=mem'}
def bW(l:Nat):Nat:=500+l
def Md(l:Nat)(k:Ex->St->Option R):Ex->St->Option R:=λe st'=>
 match e with
 | .goto l'=>bif Nat.beq l' l then k .normal st' else none
 | .exit j=>k (.exit j) st'
 | .ret=>k .ret st'
 | .normal=>none
def cK(C:bX)(an:nB)(n:Nat)(old:List (Option Bool)):Code->Nat->St->(Ex->St->Option R)->Option R
 | .skip,_,st,k=>k .normal st
 | .ret,_,st,k=>k .ret st
 | .exit id,_,st,k=>k (.exit id) st
 | .seq a b,bid,st,k=>cK C an n old a bid st λe st'=>
  match e with
  | .normal=>cK C an n old b bid st' k
  | .exit id=>k (.exit id) st'
  | .ret=>k .ret st'
  | .goto l=>k (.goto l) st'
 | .cond c x y,bid,st,k=>
  match cC st.tmps c with
  |some (.lit (.bool t))=>bif t then cK C an n old x bid st k else cK C an n old y bid st k
  |some (.imm true (.lit (.bool false)))=>amb (cK C an n old x bid st k) (cK C an n old y bid st k)
  |_=>none
 | .block id c,_,st,k=>cK C an n old c id st λe st'=>
  match e with
  | .normal=>k .normal st'
  | .exit j=>bif Nat.beq j id then k .normal st' else k (.exit j) st'
  | .ret=>k .ret st'
  | .goto l=>k (.goto l) st'
 | .loop c,bid,st,k=>(dB bid an.live).bind λlive=>kK (eC bid an.keep) old live (λst k=>cK C an n old c bid st k) n st k
 | .region rid ops draw,_,st,k=>(z5 an rid old st).bind λst=>jM P C an rid ops draw st (λst'=>k .normal st')
 | .goto l,_,st,k=>k (.goto l) st
 | .scope (.seq (.region r1 o1 d1) (.seq (.region r2 o2 d2) (.seq (.label l) b))),_,st,k=>
  (z5 an r1 old st).bind λst=>jM P C an r1 o1 d1 st λst=>
  (z5 an r2 old st).bind λst=>jM P C an r2 o2 d2 st λst=>
  (dB (bW l) an.live).bind λlive=>kK (eC (bW l) an.keep) old live (λst k=>cK C an n old b (bW l) st (Md l k)) n st k
 |_,_,_,_=>none
def Fz(tmps:List AV)(mem:aK):List ResultVar->Option (List AV)
 | []=>some []
 | .tmp t::r=>(Fo tmps t).bind λv=>(Fz tmps mem r).map (v:: ·)
 | .cell a t::r=>(Fo tmps a).bind λa=>(jY P t mem a).bind λo=>(Fz tmps mem r).map (o.v:: ·)
def yV:List AV->AV
 | [v]=>v
 |vs=> .tup vs
def GV(fn:Func)(old:List (Option Bool))(e:Ex)(st:St):Option (AV×aK):=
 match e with
 | .exit _=>none
 | .goto _=>none
 |_=>(Fz P st.tmps st.mem fn.results.toList).bind λvs=>(wC true old [yV vs] st.mem).bind λq=>
  match q.1 with
  | [v]=>some (v,q.2)
  |_=>none
end
end
end Go.Ab
end
section
namespace Go.Ab
abbrev cl(w:World)(B o:Nat):Option Value:=w.cell? ⟨B,o,none⟩
inductive PR (w:World) (pr:Nat->Nat->Prop):PV->Value->Prop
 |lit (v:Value) (h:v.oneCell'=true):PR w pr (.lit v) v
 |intsNil (k:IntKind) (a:Option Addr):PR w pr (.ints k []) (.slice a 0 0)
 |ints (k:IntKind) (xs:List Int) (B o cap:Nat) (hcap:xs.length≤cap)
   (h: ∀i x,xs[i]?=some x->cl w B (o+i)=some (.int k x)/\pr B (o+i)):PR w pr (.ints k xs) (.slice (some ⟨B,o,none⟩) xs.length cap)
 |slNil (e:Nat) (a:Option Addr):PR w pr (.sl e []) (.slice a 0 0)
 |sl (e:Nat) (xs:List PV) (B o cap:Nat) (cv:Nat->Nat->Value) (he:1≤e) (hcap:xs.length≤cap) (hlen: ∀x∈xs,x.cells.length=e)
   (h: ∀i x c y,xs[i]?=some x->x.cells[c]?=some y->cl w B (o+i*e+c)=some (cv i c)/\pr B (o+i*e+c))
   (h1: ∀i x c y,xs[i]?=some x->x.cells[c]?=some y->(cv i c).oneCell'=true)
   (hr: ∀i x c y,xs[i]?=some x->x.cells[c]?=some y->PR w pr y (cv i c)):PR w pr (.sl e xs) (.slice (some ⟨B,o,none⟩) xs.length cap)
 |agg (cs:List PV) (cvs:Array Value) (hlen:cs.length=cvs.size) (h: ∀j y,cs[j]?=some y->PR w pr y (cvs.getD j undef)):PR w pr (.agg cs) (.agg cvs)
def PV.isSl:PV->Bool
 | .ints _ _=>true
 | .sl _ _=>true
 |_=>false
structure Ff where
 blk:Option Nat
 e:Nat
 n:Nat
 off:Nat
structure Gh where
 loc:Nat->Nat->Option Ff
 prot:Bool->Nat->Nat->Prop
 mine:Nat->Prop
def Dl(w:World)(B k:Nat):Prop:= ∀j,j<k->(cl w B j).isSome=true
inductive VR (G:Gh) (w:World):AV->Value->Prop
 |lit (v:Value) (h:mW v=true):VR G w (.lit v) v
 |imm (β:Bool) (p:PV) (v:Value) (h:PR w (G.prot β) p v) (hs:p.isSl=true):VR G w (.imm β p) v
 |unkB (b:Bool):VR G w (.imm true (.lit (.bool false))) (.bool b)
 |dead (v:Value) (h1:v.oneCell'=true) (h2:mW v=true):VR G w (.imm false (.agg [])) v
 |ptr (b g i c:Nat) (L:Ff) (B:Nat) (hl:G.loc b g=some L) (hb:L.blk=some B):VR G w (.ptr b g i c) (.pointer (some ⟨B,L.off+(i*L.e+c),none⟩))
 |ms (b g o n cap:Nat) (L:Ff) (B:Nat) (hl:G.loc b g=some L) (hb:L.blk=some B) (hn:n≤cap) (hon:o+n≤L.n) (hf:Dl w B (L.off+(o+cap)*L.e)):
   VR G w (.ms b g o n) (.slice (some ⟨B,L.off+o*L.e,none⟩) n cap)
 |msNil (b g:Nat) (L:Ff) (hl:G.loc b g=some L) (hb:L.blk=none):VR G w (.ms b g 0 0) (.slice none 0 0)
 |msZ (b g o B oo:Nat) (L:Ff) (hl:G.loc b g=some L) (hb:L.blk=some B) (ho:1≤o) (hon:o≤L.n):VR G w (.ms b g o 0) (.slice (some ⟨B,oo,none⟩) 0 0)
 |msw (b g cap:Nat) (L:Ff) (B:Nat) (hl:G.loc b g=some L) (hb:L.blk=some B) (hn:L.n≤cap) (hf:Dl w B (L.off+cap*L.e)):
   VR G w (.msw b g) (.slice (some ⟨B,L.off,none⟩) L.n cap)
 |mswNil (b g:Nat) (L:Ff) (hl:G.loc b g=some L) (hb:L.blk=none) (hn:L.n=0):VR G w (.msw b g) (.slice none 0 0)
 |el (β:Bool) (p:PV) (c B o:Nat) (cv:Nat->Value)
   (h: ∀j y,p.cells[j]?=some y->cl w B (o+j)=some (cv j)/\G.prot β B (o+j))
   (hr: ∀j y,p.cells[j]?=some y->PR w (G.prot β) y (cv j)):VR G w (.el β p c) (.pointer (some ⟨B,o+c,none⟩))
 |fn (f:Fn) (fi ca:List AV) (fv cv:Array Value) (h1:fi.length=fv.size) (h2:ca.length=cv.size)
   (hf: ∀(j:Nat) (y:AV),fi[j]?=some y->VR G w y (fv.getD j undef)) (hc: ∀(j:Nat) (y:AV),ca[j]?=some y->VR G w y (cv.getD j undef)):VR G w (.fn f fi ca) (.func f fv cv)
 |agg (cs:List AV) (cvs:Array Value) (hlen:cs.length=cvs.size) (h: ∀(j:Nat) (y:AV),cs[j]?=some y->VR G w y (cvs.getD j undef)):VR G w (.agg cs) (.agg cvs)
 |tup (cs:List AV) (cvs:Array Value) (hlen:cs.length=cvs.size) (h: ∀(j:Nat) (y:AV),cs[j]?=some y->VR G w y (cvs.getD j undef)):VR G w (.tup cs) (.tuple cvs)
structure Ev (G:Gh) (w w':World):Prop where
 size:w.heap.size≤w'.heap.size
 out:w'.output=w.output
 os:w'.os=w.os
 away: ∀B,B<w.heap.size->¬G.mine B->w'.heap[B]?=w.heap[B]?
 some: ∀B o,(cl w B o).isSome=true->(cl w' B o).isSome=true
 prot: ∀β B o,G.prot β B o->cl w' B o=cl w B o
 fz: ∀B o,(cl w B o).isSome=true->w'.frozen? ⟨B,o,none⟩=w.frozen? ⟨B,o,none⟩
 tape:w'.tape=w.tape
structure c5 (G G':Gh):Prop where
 mine:G'.mine=G.mine
 prot: ∀β B o,G.prot β B o->G'.prot β B o
 loc: ∀b g L,G.loc b g=some L->G'.loc b g=some L
 new: ∀β B o,G'.prot β B o->G.prot β B o\/G.mine B
theorem c5.refl(G:Gh):c5 G G:=⟨rfl,λ_ _ _ h=>h,λ_ _ _ h=>h,λ_ _ _ h=> .inl h⟩
theorem c5.trans{G J K:Gh}(h:c5 G J)(H:c5 J K):c5 G K:=
 ⟨H.mine.trans h.mine,λ_ _ _ x=>H.prot _ _ _ (h.prot _ _ _ x),λ_ _ _ x=>H.loc _ _ _ (h.loc _ _ _ x),λ_ _ _ x=>(H.new _ _ _ x).elim (h.new _ _ _) (λy=> .inr (by rw[<-h.mine];exact y))⟩
theorem Ev.refl(G:Gh)(w:World):Ev G w w:=⟨ya1 _,rfl,rfl,λ_ _ _=>rfl,λ_ _ h=>h,λ_ _ _ _=>rfl,λ_ _ _=>rfl,rfl⟩
theorem Ev.trans{G K:Gh}{w N J:World}(h:Ev G w N)(M:c5 G K)(H:Ev K N J):Ev G w J where
 size:=yq2 h.size H.size
 out:=H.out.trans h.out
 os:=H.os.trans h.os
 away B hb hm:=(H.away B (yj2 hb h.size) (by rw[M.mine];exact hm)).trans (h.away B hb hm)
 some B o x:=H.some B o (h.some B o x)
 prot β B o x:=(H.prot β B o (M.prot _ _ _ x)).trans (h.prot β B o x)
 fz B o x:=(H.fz B o (h.some B o x)).trans (h.fz B o x)
 tape:=H.tape.trans h.tape
theorem Ev.of_eq{G:Gh}{w H:World}(J:H.heap=w.heap)(K:H.output=w.output)(hs:H.os=w.os)(ht:H.tape=w.tape):Ev G w H:=by
 have hc: ∀a,H.cell? a=w.cell? a:=λa=>by unfold World.cell?;rw[J]
 exact⟨by rw[J];exact ya1 _,K,hs,λB _ _=>by rw[J],λB o h=>by rw[cl,hc];exact h,λ_ _ _ _=>hc _,λ_ _ _=>by unfold World.frozen?;rw[J],ht⟩
theorem PR.mono{w Y:World}{O N:Nat->Nat->Prop}(W: ∀B o,O B o->N B o)(hc: ∀B o,O B o->cl Y B o=cl w B o)
  {p:PV} {v:Value} (h:PR w O p v):PR Y N p v:=by
 induction h with
 |lit v h=>exact .lit v h
 |intsNil k a=>exact .intsNil k a
 |ints k xs B o cap J h=>exact .ints k xs B o cap J λi x V=>⟨(hc _ _ (h i x V).2).trans (h i x V).1,W _ _ (h i x V).2⟩
 |slNil e a=>exact .slNil e a
 |sl e xs B o cap cv Z J H h K hr U=>
  exact .sl e xs B o cap cv Z J H (λi x c y K M=>⟨(hc _ _ (h i x c y K M).2).trans (h i x c y K M).1,W _ _ (h i x c y K M).2⟩) K (λi x c y K M=>U i x c y K M)
 |agg cs cvs H h U=>exact .agg cs cvs H λj y hy=>U j y hy
theorem Dl.mono{G:Gh}{w H:World}(K:Ev G w H){B k:Nat}(h:Dl w B k):Dl H B k:=λj J=>K.some B j (h j J)
theorem VR.mono{G G':Gh}{w w':World}(M:c5 G G')(O:Ev G w w'){a:AV}{v:Value}(h:VR G w a v):VR G' w' a v:=by
 induction h with
 |lit v h=>exact .lit v h
 |imm β p v h hs=>exact .imm β p v (h.mono (M.prot β) (O.prot β)) hs
 |unkB b=>exact .unkB b
 |dead v h1 W=>exact .dead v h1 W
 |ptr b g i c L B K J=>exact .ptr b g i c L B (M.loc _ _ _ K) J
 |ms b g o n cap L B K J hn N hf=>exact .ms b g o n cap L B (M.loc _ _ _ K) J hn N (hf.mono O)
 |msNil b g L K J=>exact .msNil b g L (M.loc _ _ _ K) J
 |msZ b g o B oo L K J ho N=>exact .msZ b g o B oo L (M.loc _ _ _ K) J ho N
 |msw b g cap L B K J hn hf=>exact .msw b g cap L B (M.loc _ _ _ K) J hn (hf.mono O)
 |mswNil b g L K J hn=>exact .mswNil b g L (M.loc _ _ _ K) J hn
 |el β p c B o cv h hr=>
  exact .el β p c B o cv (λj y U=>⟨(O.prot _ _ _ (h j y U).2).trans (h j y U).1,M.prot _ _ _ (h j y U).2⟩) (λj y U=>(hr j y U).mono (M.prot β) (O.prot β))
 |fn f fi ca fv cv h1 W hf hc Z V=>exact .fn f fi ca fv cv h1 W Z V
 |agg cs cvs H h Y=>exact .agg cs cvs H Y
 |tup cs cvs H h Y=>exact .tup cs cvs H Y
def pY(G:Gh)(w:World)(as:List AV)(vs:Array Value):Prop:=as.length=vs.size/\∀(j:Nat) (y:AV),as[j]?=some y->VR G w y (vs.getD j undef)
theorem pY.mono{G H:Gh}{w J:World}(M:c5 G H)(N:Ev G w J){as:List AV}{vs:Array Value}(h:pY G w as vs):pY H J as vs:=
 ⟨h.1,λj y K=>(h.2 j y K).mono M N⟩
def gW(w:World)(B:Nat):Prop:= ∃c el lo hi,w.heap[B]?=some (.cells c el (lo,hi))/\(lo=hi\/c.size≤lo)
def GQ(G:Gh)(w:World)(B a:Nat):aZ->Prop
 | .ints k xs=> ∀i x,xs[i]?=some x->cl w B (a+i)=some (.int k x)
 | .pvs β e xs=>(∀x∈xs,x.cells.length=e)/\∀(i:Nat) (x:PV) (c:Nat) (y:PV),xs[i]?=some x->x.cells[c]?=some y->∃v,cl w B (i*e+c)=some v/\v.oneCell'=true/\PR w (G.prot β) y v
 |_=>False
def OR(G:Gh)(w:World)(y:PV)(v:Value):Prop:=
 (∃ u, y = .lit u ∧ v = u) ∨ ∃ row, cW y = some row ∧ ((v = .slice none 0 0 ∧ row.len = 0) ∨ ∃ B' a cap, v = .slice (some ⟨B', a, none⟩) row.len cap ∧ (row.isInts = false → a = 0) ∧ row.len ≤ cap ∧ Dl w B' (a + cap * row.e) ∧
  G.mine B'/\B'<w.heap.size/\gW w B'/\GQ G w B' a row/\∀β o,¬G.prot β B' o)
def aG(i c:Nat):List (Nat×Nat×AV)->Option AV
 | []=>none
 |(i',c',v)::r=>if i'=i/\c'=c then some v else aG i c r
def HR(G:Gh)(w:World)(o:Option AV)(y:PV)(v:Value):Prop:=
 match o with
 |some a=>VR G w a v
 |none=>OR G w y v
def iD(G:Gh)(w:World)(B a:Nat):aZ->Prop
 | .own e xs hs=>(∀h∈hs,h.1<xs.length)/\(∀x∈xs,x.cells.length=e)/\∀(i:Nat) (x:PV) (c:Nat) (y:PV),xs[i]?=some x->x.cells[c]?=some y->
   ∃v,cl w B (i*e+c)=some v/\v.oneCell'=true/\HR G w (aG i c hs) y v
 | .ints k xs=> ∀i x,xs[i]?=some x->cl w B (a+i)=some (.int k x)
 | .pvs β e xs=>(∀x∈xs,x.cells.length=e)/\∀(i:Nat) (x:PV) (c:Nat) (y:PV),xs[i]?=some x->x.cells[c]?=some y->∃v,cl w B (i*e+c)=some v/\v.oneCell'=true/\PR w (G.prot β) y v
 | .cells e cs=>cs.length=e*aR e cs.length/\∀(j:Nat) (y:AV),cs[j]?=some y->∃v,cl w B j=some v/\v.oneCell'=true/\VR G w y v
theorem gW.cell{w:World}{B:Nat}(h:gW w B){o:Nat}(H:(cl w B o).isSome=true):w.frozen? ⟨B,o,none⟩=false:=by
 obtain⟨c,el,lo,hi,J,hf⟩:=h;unfold cl World.cell? at H;simp only[J,Option.isSome_none,yr2,if_false]at H;have K:o<c.size:=by
  rcases yl2 o c.size with h|h
  ·exact h
  ·rw[Array.getElem?_eq_none h]at H;cases H
 unfold World.frozen?;simp only[J,Bool.and_eq_false_iff,decide_eq_false_iff_not];omega
theorem gW.of_heap{w H:World}{B:Nat}(h:gW w B)(M:H.heap[B]?=w.heap[B]?):gW H B:=by
 obtain⟨c,el,N,J,K,hf⟩:=h;exact⟨c,el,N,J,by rw[M];exact K,hf⟩
structure T1 (G:Gh) (w:World) (b:Nat) (x:bK):Prop where
 e:1≤x.row.e
 loc: ∃o a,G.loc b x.gen=some ⟨o,x.row.e,x.row.len,a⟩/\(x.row.isInts=false->a=0)/\
  match o with
  |none=>x.row.len=0/\x.row.isCells=false
  |some B=>G.mine B/\B<w.heap.size/\gW w B/\iD G w B a x.row/\(x.frz=false->∀β o,¬G.prot β B o)
def eT(G:Gh)(b:Nat)(x:bK)(B:Nat):Prop:= ∃L,G.loc b x.gen=some L/\L.blk=some B
def cN(w:World)(B:Nat)(r:aZ)(i c B':Nat):Prop:=
 match r with
 | .own e xs hs=>(∃x y row,xs[i]?=some x/\x.cells[c]?=some y/\cW y=some row)/\aG i c hs=none/\∃a n cap,cl w B (i*e+c)=some (.slice (some ⟨B',a,none⟩) n cap)
 |_=>False
theorem cN.own{w:World}{B:Nat}{r:aZ}{i c B':Nat}(h:cN w B r i c B'):r.isOwn=true:=by
 cases r<;>first|rfl|cases h
def j8(G:Gh)(w:World)(mem:aK)(b B':Nat):Prop:= ∃(b':Nat) (y:bK) (B:Nat),b'≠b/\mem[b']?=some (some y)/\eT G b' y B/\(B'=B\/∃i c,cN w B y.row i c B')
variable [cF]
def yN(G:Gh)(w:World):Prop:= ∀(g:Nat) (q:Int×Int),cF.tab g=some q->(cl w g 0=some (.int .i64 q.1)/\G.prot true g 0)/\cl w g 1=some (.int .i64 q.2)/\G.prot true g 1
theorem yN.mono{G J:Gh}{w K:World}(h:yN G w)(M: ∀B o,G.prot true B o->J.prot true B o)(hc: ∀B o,G.prot true B o->cl K B o=cl w B o):yN J K:=λg q H=>
 ⟨⟨(hc _ _ (h g q H).1.2).trans (h g q H).1.1,M _ _ (h g q H).1.2⟩,(hc _ _ (h g q H).2.2).trans (h g q H).2.1,M _ _ (h g q H).2.2⟩
structure aH (G:Gh) (w:World) (mem:aK):Prop where
 box: ∀(b:Nat) (x:bK),mem[b]?=some (some x)->T1 G w b x
 unset: ∀b g,(∀x:bK,mem[b]?≠some (some x))->G.loc b g=none
 gens: ∀(b:Nat) (x:bK) (g:Nat),mem[b]?=some (some x)->x.gen<g->G.loc b g=none
 apart: ∀(b b':Nat) (x x':bK) (L L':Ff) (B:Nat),mem[b]?=some (some x)->mem[b']?=some (some x')->G.loc b x.gen=some L->G.loc b' x'.gen=some L'->
  L.blk=some B->L'.blk=some B->b=b'
 inA: ∀(b b':Nat) (x x':bK) (B i c B':Nat),mem[b]?=some (some x)->eT G b x B->cN w B x.row i c B'->mem[b']?=some (some x')->¬eT G b' x' B'
 inB: ∀(b b':Nat) (x x':bK) (B C i c i' c' B':Nat),mem[b]?=some (some x)->eT G b x B->cN w B x.row i c B'->mem[b']?=some (some x')->eT G b' x' C->cN w C x'.row i' c' B'->b=b'/\i=i'/\c=c'
 own: ∀B,w.heap.size≤B->G.mine B
 lab: ∀B o,G.prot false B o->G.prot true B o
 away: ∀β B o,G.prot β B o->B<w.heap.size
 glob:yN G w
def Pg(w w':World)(B:Nat):Prop:=(∀o,cl w' B o=cl w B o)/\(gW w B->gW w' B)
theorem Pg.of{w H:World}{B:Nat}(h:H.heap[B]?=w.heap[B]?):Pg w H B:=⟨λo=>by unfold cl World.cell?;simp only[h],λhf=>hf.of_heap h⟩
theorem GQ.mono{G O:Gh}{w K:World}(Y:c5 G O)(W:Ev G w K){B a:Nat}(H: ∀o,(cl w B o).isSome=true->cl K B o=cl w B o){r:aZ}(h:GQ G w B a r):GQ O K B a r:=by
 cases r with
 |ints k xs=>exact λi x M=>by rw[H (a+i) (by rw[h i x M];rfl)];exact h i x M
 |pvs β e xs=>
  refine⟨h.1,λi x c y Z V=>?_⟩;obtain⟨v,N,J,U⟩:=h.2 i x c y Z V;exact⟨v,by rw[H _ (by rw[N];rfl)];exact N,J,U.mono (Y.prot β) (W.prot β)⟩
 |cells e cs=>cases h
 |own e xs hs=>cases h
theorem OR.mono{G M:Gh}{w N:World}(U:c5 G M)(K:Ev G w N){y:PV}{v:Value}(h:OR G w y v)
  (J: ∀B' a n cap,(∃row,cW y=some row)->v= .slice (some ⟨B',a,none⟩) n cap->Pg w N B'/\∀β o,¬M.prot β B' o):OR M N y v:=by
 rcases h with h|⟨row,H,h⟩
 ·exact .inl h
 ·refine .inr ⟨row,H,?_⟩;rcases h with h|⟨B',a,cap,V,W,h1,Z,h3,h4,h5,h6,h7⟩
  ·exact .inl h
  ·obtain⟨O,Y⟩:=J B' _ _ _ ⟨row,H⟩ V;exact .inr ⟨B',a,cap,V,W,h1,Z.mono K,by rw[U.mine];exact h3,yj2 h4 K.size,O.2 h5,h6.mono U K (λo _=>O.1 o),Y⟩
theorem iD.mono{G G':Gh}{w W:World}(V:c5 G G')(U:Ev G w W){B a:Nat}(H: ∀o,(cl w B o).isSome=true->cl W B o=cl w B o){r:aZ}
  (hin: ∀i c B',cN w B r i c B'->Pg w W B'/\∀β o,¬G'.prot β B' o) (h:iD G w B a r):iD G' W B a r:=by
 cases r with
 |ints k xs=>exact λi x hx=>by rw[H (a+i) (by rw[h i x hx];rfl)];exact h i x hx
 |pvs β e xs=>
  refine⟨h.1,λi x c y Y O=>?_⟩;obtain⟨v,M,J,N⟩:=h.2 i x c y Y O;exact⟨v,by rw[H _ (by rw[M];rfl)];exact M,J,N.mono (V.prot β) (U.prot β)⟩
 |cells e cs=>
  refine⟨h.1,λj y hy=>?_⟩;obtain⟨v,M,J,N⟩:=h.2 j y hy;exact⟨v,by rw[H _ (by rw[M];rfl)];exact M,J,N.mono V U⟩
 |own e xs hs=>
  refine⟨h.1,h.2.1,λi x c y Y O=>?_⟩;obtain⟨v,M,J,N⟩:=h.2.2 i x c y Y O;refine⟨v,by rw[H _ (by rw[M];rfl)];exact M,J,?_⟩;cases Z:aG i c hs with
  |some a=>rw[Z]at N;exact VR.mono V U N
  |none=>
   rw[Z]at N;refine OR.mono V U N λB' a' n cap K hvv=>?_;obtain⟨row,K⟩:=K;exact hin i c B' ⟨⟨x,y,row,Y,O,K⟩,Z,a',n,cap,by rw[M,hvv]⟩
theorem aH.blk{G:Gh}{w:World}{mem:aK}(hM:aH G w mem){b:Nat}{x:bK}{B:Nat}(N:mem[b]?=some (some x))(hB:eT G b x B):
  ∃a,G.loc b x.gen=some ⟨some B,x.row.e,x.row.len,a⟩/\(x.row.isInts=false->a=0)/\G.mine B/\B<w.heap.size/\gW w B/\iD G w B a x.row/\(x.frz=false->∀β o,¬G.prot β B o):=by
 obtain⟨L,U,M⟩:=hB;obtain⟨o,O,H,K,hm⟩:=(hM.box b x N).loc;have J:=U;rw[H]at J;obtain rfl:=ya J;simp only at M;subst M;exact⟨O,H,K,hm⟩
theorem aH.blkSz{G:Gh}{w:World}{mem:aK}(hM:aH G w mem){b:Nat}{x:bK}{B:Nat}(H:mem[b]?=some (some x))(hB:eT G b x B):B<w.heap.size:=
 let ⟨_,_,_,_,h,_⟩:=hM.blk H hB;h
theorem aH.inn{G:Gh}{w:World}{mem:aK}(hM:aH G w mem){b:Nat}{x:bK}{B i c B':Nat}(Z:mem[b]?=some (some x))(hB:eT G b x B)(K:cN w B x.row i c B'):
  G.mine B'/\B'<w.heap.size/\gW w B'/\∀β o,¬G.prot β B' o:=by
 obtain⟨_,_,_,_,_,_,hr,_⟩:=hM.blk Z hB;cases H:x.row with
 |own e xs hs=>
  rw[H]at K hr;obtain⟨⟨p,y,row,h1,W,Y⟩,V,a',n,cap,hc⟩:=K;obtain⟨v,J,_,M⟩:=hr.2.2 i p c y h1 W;rw[V]at M;rw[hc]at J;obtain rfl:=ya J;rcases M with ⟨u,U,_⟩|⟨row',N,M⟩
  ·subst U;simp[cW]at Y
  ·rcases M with ⟨hn,_⟩|⟨B2,a2,O,J,_,_,_,m1,m2,m3,_,m4⟩
   ·cases hn
   ·simp only[Value.slice.injEq,Option.some.injEq,Addr.mk.injEq,true_and,and_true]at J;obtain⟨⟨rfl,_⟩,_⟩:=J;exact⟨m1,m2,m3,m4⟩
 |_=>rw[H]at K;cases K
theorem aH.other{G:Gh}{w:World}{mem:aK}(hM:aH G w mem){b B':Nat}(h:j8 G w mem b B'):G.mine B'/\B'<w.heap.size/\gW w B':=by
 obtain⟨b',y,B,_,M,hB,h⟩:=h;rcases h with rfl|⟨i,c,N⟩
 ·obtain⟨_,_,_,H,J,K,_⟩:=hM.blk M hB;exact⟨H,J,K⟩
 ·obtain⟨H,J,K,_⟩:=hM.inn M hB N;exact⟨H,J,K⟩
theorem aH.other_ne{G:Gh}{w:World}{mem:aK}(hM:aH G w mem){b B B':Nat}{x:bK}(N:mem[b]?=some (some x))(hB:eT G b x B)(h:j8 G w mem b B'):B'≠B:=by
 rintro rfl
 obtain⟨O,y,C,J,M,hC,h⟩:=h;rcases h with rfl|⟨i,c,U⟩
 ·obtain⟨L,Y,V⟩:=hB;obtain⟨W,H,K⟩:=hC;exact J (hM.apart O b y x W L _ M N H Y K V)
 ·exact hM.inA O b y x C i c _ M hC U N hB
theorem aH.other_inn{G:Gh}{w:World}{mem:aK}(hM:aH G w mem){b B i c B':Nat}{x:bK}(N:mem[b]?=some (some x))(hB:eT G b x B)(K:cN w B x.row i c B'): ¬j8 G w mem b B':=by
 rintro⟨O,y,C,J,M,hC,h⟩
 rcases h with rfl|⟨U,V,H⟩
 ·exact hM.inA b O x y B i c _ N hB K M hC
 ·exact J (hM.inB b O x y B C i c U V B' N hB K M hC H).1.symm
end Go.Ab
end
section
namespace Go.Ab
variable [cF]
theorem dP{w H:World}{B:Nat}(h:H.heap[B]?=w.heap[B]?)(o:Nat):cl H B o=cl w B o:=by
 unfold cl World.cell?;simp only[h]
theorem Hi{w H:World}{B:Nat}(h:H.heap[B]?=w.heap[B]?)(o:Nat):H.frozen? ⟨B,o,none⟩=w.frozen? ⟨B,o,none⟩:=by
 unfold World.frozen?;simp only[h]
theorem HS{w:World}{B o:Nat}(h:(cl w B o).isSome=true):B<w.heap.size:=by
 obtain⟨u,H⟩:=Option.isSome_iff_exists.1 h;exact World.block_lt_of_cell? (a:=⟨B,o,none⟩) _ H
def Gh.put(G:Gh)(b g:Nat)(L:Ff):Gh:={G with loc:=λb' g'=>if b'=b/\g'=g then some L else G.loc b' g'}
theorem Gh.put_self(G:Gh)(b g:Nat)(L:Ff):(G.put b g L).loc b g=some L:=by simp[Gh.put]
theorem Gh.put_ne(G:Gh){b g H g':Nat}(L:Ff)(h: ¬(H=b/\g'=g)):(G.put b g L).loc H g'=G.loc H g':=by simp[Gh.put,h]
theorem c5.put{G:Gh}{b g:Nat}{L:Ff}(h:G.loc b g=none\/G.loc b g=some L):c5 G (G.put b g L):=by
 refine⟨rfl,λ_ _ _ x=>x,λJ g' L' H=>?_,λ_ _ _ x=> .inl x⟩;by_cases e:J=b/\g'=g
 ·obtain⟨rfl,rfl⟩:=e;rw[Gh.put_self];rcases h with h|h<;>rw[h]at H<;>simp_all
 ·rw[Gh.put_ne _ _ e];exact H
structure Iq (G:Gh) (w w1:World) (mem:aK) (b:Nat) (x':bK) (L:Ff):Prop where
 other: ∀B',j8 G w mem b B'->w1.heap[B']?=w.heap[B']?
 apart: ∀B,L.blk=some B->¬j8 G w mem b B
 self: ∀B,L.blk=some B->∀i c B',cN w1 B x'.row i c B'->¬j8 G w mem b B'/\B'≠B
 inj: ∀B,L.blk=some B->∀i c i2 c2 B',cN w1 B x'.row i c B'->cN w1 B x'.row i2 c2 B'->i=i2/\c=c2
theorem Iq.plain{G:Gh}{w J:World}{mem:aK}{b:Nat}{x':bK}{L:Ff}(H:x'.row.isOwn=false)(M: ∀B',j8 G w mem b B'->J.heap[B']?=w.heap[B']?)(K: ∀B,L.blk=some B->¬j8 G w mem b B):Iq G w J mem b x' L:=
 ⟨M,K,λB _ i c B' h=>absurd h.own (by rw[H];decide),λB _ i c i2 c2 B' h _=>absurd h.own (by rw[H];decide)⟩
theorem cN.same{w H:World}{B:Nat}{r:aZ}{i c B':Nat}(h:cN H B r i c B')(hs: ∀o,cl H B o=cl w B o):cN w B r i c B':=by
 cases r with
 |own e xs hs'=>obtain⟨J,K,a,n,cap,M⟩:=h;exact⟨J,K,a,n,cap,by rw[<-hs];exact M⟩
 |_=>cases h
theorem j8.at{G:Gh}{w:World}{mem:aK}{b H:Nat}{y:bK}{B:Nat}(J:H≠b)(K:mem[H]?=some (some y))(hB:eT G H y B):j8 G w mem b B:=⟨H,y,B,J,K,hB,.inl rfl⟩
theorem j8.inn{G:Gh}{w:World}{mem:aK}{b H:Nat}{y:bK}{B i c B':Nat}(J:H≠b)(M:mem[H]?=some (some y))(hB:eT G H y B)(K:cN w B y.row i c B'):j8 G w mem b B':=⟨H,y,B,J,M,hB,.inr ⟨i,c,K⟩⟩
theorem aH.upd{G:Gh}{w w1:World}{mem:aK}{b:Nat}{x':bK}{L:Ff}(hM:aH G w mem)(hev:Ev G w w1)(hb:b<mem.length)
  (hput:G.loc b x'.gen=none\/G.loc b x'.gen=some L) (N:Iq G w w1 mem b x' L)
  (hgen: ∀g,x'.gen<g->G.loc b g=none)
  (hbox:T1 (G.put b x'.gen L) w1 b x'):aH (G.put b x'.gen L) w1 (mem.set b (some x')):=by
 have hg:=c5.put hput;have K: ∀(M:Nat) (y:bK),(mem.set b (some x'))[M]?=some (some y)->(M=b/\y=x')\/(M≠b/\mem[M]?=some (some y)):=by
  intro M y h;by_cases e:M=b
  ·subst e;rw[yt hb]at h;left;exact⟨rfl,by simpa using h.symm⟩
  ·rw[yo (λx=>e x.symm)]at h;right;exact⟨e,h⟩
 have H: ∀{B:Nat},eT (G.put b x'.gen L) b x' B->L.blk=some B:=by
  rintro B ⟨L1,l1,k1⟩
  rw[Gh.put_self]at l1;obtain rfl:=ya l1;exact k1
 have J: ∀{M:Nat} {y:bK} {B:Nat},M≠b->eT (G.put b x'.gen L) M y B->eT G M y B:=by
  rintro M y B e ⟨L1,l1,k1⟩
  rw[Gh.put_ne _ _ (λx=>e x.1)]at l1;exact⟨L1,l1,k1⟩
 have Z: ∀{M:Nat} {y:bK} {B:Nat},M≠b->mem[M]?=some (some y)->eT G M y B->∀o,cl w1 B o=cl w B o:=λe hy hB o=>dP (N.other _ (.at e hy hB)) o;refine⟨λM y h=>?_,λM g h=>?_,λM y g h hlt=>?_,λb1 b2 y1 y2 L1 L2 B h1 h2 l1 l2 k1 O=>?_,λb1 b2 y1 y2 B i c B' h1 k1 hi h2 O=>?_,λb1 b2 y1 y2 B C i c i' c' B' h1 k1 hi h2 O hi'=>?_,λB h=>hM.own B (yq2 hev.size h),hM.lab,fun β B o h=>yj2 (hM.away β B o h) hev.size,hM.glob.mono (hg.prot true) (hev.prot true)⟩
 ·rcases K M y h with ⟨rfl,rfl⟩|⟨e,h⟩
  ·exact hbox
  ·have hx:=hM.box M y h;obtain⟨o,a0,hl,ha0,hm⟩:=hx.loc;refine⟨hx.e,o,a0,hg.loc _ _ _ hl,ha0,?_⟩;cases o with
   |none=>exact hm
   |some B=>
    obtain⟨hm1,hm2,hm3,hm4,hm5⟩:=hm;have hB:eT G M y B:=⟨_,hl,rfl⟩
    have hh:=N.other B (.at e h hB);exact⟨hm1,yj2 hm2 hev.size,hm3.of_heap hh,hm4.mono hg hev (λo _=>dP hh o) (λi c B' hi=>⟨.of (N.other B' (.inn e h hB hi)),(hM.inn h hB hi).2.2.2⟩),hm5⟩
 ·by_cases e:M=b
  ·subst e;exact absurd (yt hb) (h x')
  ·rw[Gh.put_ne _ _ (λx=>e x.1)];exact hM.unset M g λx hx=>h x (by rw[yo (λx=>e x.symm)];exact hx)
 ·rcases K M y h with ⟨rfl,rfl⟩|⟨e,h⟩
  ·rw[Gh.put_ne _ _ (λx=>by omega)];exact hgen g hlt
  ·rw[Gh.put_ne _ _ (λx=>e x.1)];exact hM.gens M y g h hlt
 ·rcases K b1 y1 h1 with ⟨f1,U⟩|⟨W,g1⟩<;>rcases K b2 y2 h2 with ⟨f2,V⟩|⟨Y,g2⟩
  ·rw[f1,f2]
  ·subst f1 U;exact absurd (.at Y g2 (J Y ⟨L2,l2,O⟩)) (N.apart B (H ⟨L1,l1,k1⟩))
  ·subst f2 V;exact absurd (.at W g1 (J W ⟨L1,l1,k1⟩)) (N.apart B (H ⟨L2,l2,O⟩))
  ·rw[Gh.put_ne _ _ (λx=>W x.1)]at l1;rw[Gh.put_ne _ _ (λx=>Y x.1)]at l2;exact hM.apart b1 b2 y1 y2 L1 L2 B g1 g2 l1 l2 k1 O
 ·rcases K b1 y1 h1 with ⟨f1,U⟩|⟨W,g1⟩<;>rcases K b2 y2 h2 with ⟨f2,V⟩|⟨Y,g2⟩
  ·subst f1 U f2 V;have hB:=H k1;have h2:=H O;have h3:=hB;rw[h2]at h3;exact(N.self B hB i c B' hi).2 (ya h3)
  ·subst f1 U;exact(N.self B (H k1) i c B' hi).1 (.at Y g2 (J Y O))
  ·subst f2 V;have k1:=J W k1;exact N.apart B' (H O) (.inn W g1 k1 (hi.same (Z W g1 k1)))
  ·have k1:=J W k1;exact hM.inA b1 b2 y1 y2 B i c B' g1 k1 (hi.same (Z W g1 k1)) g2 (J Y O)
 ·rcases K b1 y1 h1 with ⟨f1,U⟩|⟨W,g1⟩<;>rcases K b2 y2 h2 with ⟨f2,V⟩|⟨Y,g2⟩
  ·subst f1 U f2 V;have hB:=H k1;have hC:=H O;rw[hB]at hC;obtain rfl:=ya hC;exact⟨rfl,N.inj B hB i c i' c' B' hi hi'⟩
  ·subst f1 U;have O:=J Y O;exact absurd (.inn Y g2 O (hi'.same (Z Y g2 O))) (N.self B (H k1) i c B' hi).1
  ·subst f2 V;have k1:=J W k1;exact absurd (.inn W g1 k1 (hi.same (Z W g1 k1))) (N.self C (H O) i' c' B' hi').1
  ·have k1:=J W k1;have O:=J Y O;exact hM.inB b1 b2 y1 y2 B C i c i' c' B' g1 k1 (hi.same (Z W g1 k1)) g2 O (hi'.same (Z Y g2 O))
theorem fH{w:World}{o:Obj}{B:Nat}(h:B<w.heap.size):(w.alloc o).heap[B]?=w.heap[B]?:=by
 simp only[World.alloc];rw[Array.getElem?_push];rw[if_neg (by omega)]
theorem Ei{w:World}{o:Obj}{B j:Nat}(h:B<w.heap.size):cl (w.alloc o) B j=cl w B j:=dP (fH h) j
theorem kP{w:World}{c:Array Value}{t:TypeId}{fr:Nat×Nat}{j:Nat}:cl (w.alloc (.cells c t fr)) w.heap.size j=c[j]?:=by
 unfold cl World.cell? World.alloc;simp
theorem Db(w:World)(c:Array Value)(t:TypeId)(a:Addr):(w.alloc (.cells c t)).frozen? a=w.frozen? a:=by
 by_cases h:a.block<w.heap.size
 ·unfold World.frozen?;simp only[fH h]
 ·have J:w.heap[a.block]?=none:=by simp;omega
  by_cases K:a.block=w.heap.size
  ·have H:(w.alloc (.cells c t)).heap[a.block]?=some (.cells c t):=by rw[K];show(w.heap.push (.cells c t))[w.heap.size]?=_;simp
   unfold World.frozen?;simp[H,J]
  ·have H:(w.alloc (.cells c t)).heap[a.block]?=none:=by show(w.heap.push (.cells c t))[a.block]?=none;rw[Array.getElem?_eq_none];simp;omega
   unfold World.frozen?;simp[H,J]
theorem gW.alloc{w:World}{c:Array Value}{t:TypeId}:gW (w.alloc (.cells c t)) w.heap.size:=⟨c,t,0,0,by show(w.heap.push _)[w.heap.size]?=_;simp,.inl rfl⟩
theorem Ev.alloc(G:Gh)(w:World)(o:Obj)(J: ∀β B x,G.prot β B x->B<w.heap.size)(H: ∃c t,o= .cells c t:=by exact⟨_,_,rfl⟩):Ev G w (w.alloc o) where
 size:=by simp
 out:=rfl
 os:=rfl
 away B hb _:=fH hb
 some B j h:=by rw[Ei (HS h)];exact h
 prot β B j h:=Ei (J β B j h)
 fz B o _:=by obtain⟨c,t,rfl⟩:=H;exact Db w c t _
 tape:=rfl
theorem Ev.drew(G:Gh)(w:World):Ev G w w.drew:=Ev.of_eq rfl rfl rfl rfl
theorem dK{w:World}{B B':Nat}(h:B'≠B): ∀(vs:List Value) (o:Nat) (w:World),(w.setCells B o vs).heap[B']?=w.heap[B']?
 | [],_,_=>rfl
 |v::r,o,w=>by
  rw[World.setCells,dK (w:=w) h r];exact heap_setCell_other w ⟨B,o,none⟩ B' v h
theorem l9{B:Nat}: ∀(vs:List Value) (o:Nat) (w:World),(w.setCells B o vs).heap.size=w.heap.size
 | [],_,_=>rfl
 |v::r,o,w=>by rw[World.setCells,l9 r];simp
theorem sU{B:Nat}: ∀(vs:List Value) (o:Nat) (w:World),(w.setCells B o vs).output=w.output/\(w.setCells B o vs).os=w.os
 | [],_,_=>⟨rfl,rfl⟩
 |v::r,o,w=>by rw[World.setCells];exact sU r _ _
theorem zY{B:Nat}: ∀(vs:List Value) (o:Nat) (w:World),(w.setCells B o vs).tape=w.tape
 | [],_,_=>rfl
 |v::r,o,w=>by rw[World.setCells];exact zY r _ _
theorem kR{w:World}{B o:Nat}{vs:List Value}(h: ∀j,j<vs.length->(cl w B (o+j)).isSome=true){j:Nat}(H:j<vs.length):
  cl (w.setCells B o vs) B (o+j)=some vs[j]:=World.cell?_setCells_in B vs o w h j H
theorem jL{w:World}{B o:Nat}{vs:List Value}{j:Nat}(h:j<o\/o+vs.length≤j):cl (w.setCells B o vs) B j=cl w B j:=
 World.cell?_setCells_out B vs o w ⟨B,j,none⟩ (λ_ _=>h)
theorem CE{w:World}{B o:Nat}{vs:List Value}(h: ∀j,j<vs.length->(cl w B (o+j)).isSome=true){B' j:Nat}(hs:(cl w B' j).isSome=true):
  (cl (w.setCells B o vs) B' j).isSome=true:=by
 by_cases e:B'=B
 ·subst e;by_cases H:j<o\/o+vs.length≤j
  ·rw[jL H];exact hs
  ·obtain⟨k,rfl⟩: ∃k,j=o+k:=⟨j-o,by omega⟩
   rw[kR h (by omega)];rfl
 ·rw[dP (dK (w:=w) e vs o w)];exact hs
theorem Fv{w:World}{B o:Nat}{vs:List Value}(a:Addr):(w.setCells B o vs).frozen? a=w.frozen? a:=World.frozen?_setCells B vs o w a
theorem gW.setCell{w:World}{B o:Nat}{v:Value}(h:gW w B):gW (w.setCell ⟨B,o,none⟩ v) B:=by
 obtain⟨c,el,K,H,J,hf⟩:=h;refine⟨c.setIfInBounds o v,el,K,H,?_,by simpa using hf⟩;unfold World.setCell;simp[Array.getElem?_modify,J]
theorem gW.setCells{B:Nat}: ∀{vs:List Value} {o:Nat} {w:World},gW w B->gW (w.setCells B o vs) B
 | [],_,_,h=>h
 |v::r,o,w,h=>by rw[World.setCells];exact gW.setCells h.setCell
theorem Ev.setCells{G:Gh}{w:World}{B o:Nat}{vs:List Value}(hm:G.mine B)(h: ∀j,j<vs.length->(cl w B (o+j)).isSome=true)
  (H: ∀β j,¬G.prot β B j):Ev G w (w.setCells B o vs) where
 size:=by rw[l9];exact ya1 _
 out:=(sU vs o w).1
 os:=(sU vs o w).2
 away B' hb hn:=dK (w:=w) (λe:B'=B=>hn (by rw[e];exact hm)) vs o w
 some B' j hs:=CE h hs
 prot β B' j hj:=by
  by_cases e:B'=B
  ·subst e;exact absurd hj (H β j)
  ·exact dP (dK (w:=w) e vs o w) j
 fz B o _:=Fv _
 tape:=zY vs o w
theorem aH.make{G:Gh}{w:World}{mem:aK}{b:Nat}{row:aZ}{c:Array Value}{t:TypeId}(hM:aH G w mem)(M:mem[b]?=some none)
  (V:1≤row.e) (hr:iD (G.put b 0 ⟨some w.heap.size,row.e,row.len,0⟩) (w.alloc (.cells c t)) w.heap.size 0 row) (H: ∀i W B',¬cN (w.alloc (.cells c t)) w.heap.size row i W B'):
  aH (G.put b 0 ⟨some w.heap.size,row.e,row.len,0⟩) (w.alloc (.cells c t)) (mem.set b (some {gen:=0,frz:=false,row})):=by
 have N:b<mem.length:=by
  rcases yl2 b mem.length with h|h
  ·exact h
  ·rw[yd1 h]at M;cases M
 have J: ∀g,G.loc b g=none:=λg=>hM.unset b g (λx O=>by rw[M]at O;cases O);have K:=Ev.alloc G w (.cells c t) hM.away;refine hM.upd (x':={gen:=0,frz:=false,row}) K N (.inl (J 0)) ⟨λB' h=>fH (hM.other h).2.1,λB hB h=>?_,λB hB i c B' h=>?_,λB hB i c i2 c2 B' h _=>?_⟩ (λg _=>J g) ?_
 ·simp only[Option.some.injEq]at hB;subst hB;exact yj4 _ (hM.other h).2.1
 ·simp only[Option.some.injEq]at hB;subst hB;exact absurd h (H i c B')
 ·simp only[Option.some.injEq]at hB;subst hB;exact absurd h (H i c B')
 ·refine⟨V,some w.heap.size,0,by simp[Gh.put],λ_=>rfl,hM.own _ (ya1 _),by simp,gW.alloc,hr,λ_ β o U=>?_⟩
  ·exact absurd (hM.away β _ o U) (yj4 _)
theorem aH.ev{G:Gh}{w N:World}{mem:aK}(hM:aH G w mem)(J:Ev G w N)(hs:N.heap.size=w.heap.size\/w.heap.size≤N.heap.size)
  (H: ∀B,B<w.heap.size->N.heap[B]?=w.heap[B]?):aH G N mem where
 box b x h:=by
  have hx:=hM.box b x h;obtain⟨o,a0,hl,U,hm⟩:=hx.loc;refine⟨hx.e,o,a0,hl,U,?_⟩;cases o with
  |none=>exact hm
  |some B=>
   obtain⟨O,M,Y,W,V⟩:=hm;have Z:=H B M;have hB:eT G b x B:=⟨_,hl,rfl⟩
   exact⟨O,yj2 M J.size,Y.of_heap Z,W.mono (c5.refl G) J (λo _=>dP Z o) (λi c B' K=>⟨.of (H B' (hM.inn h hB K).2.1),(hM.inn h hB K).2.2.2⟩),V⟩
 unset:=hM.unset
 gens:=hM.gens
 apart:=hM.apart
 inA b b' x x' B i c B' h k K h':=hM.inA b b' x x' B i c B' h k (K.same λo=>dP (H B (hM.blkSz h k)) o) h'
 inB b b' x x' B C i c i' c' B' h k K h' k' hi':=hM.inB b b' x x' B C i c i' c' B' h k (K.same λo=>dP (H B (hM.blkSz h k)) o) h' k' (hi'.same λo=>dP (H C (hM.blkSz h' k')) o)
 own B h:=hM.own B (yq2 J.size h)
 lab:=hM.lab
 away β B o h:=yj2 (hM.away β B o h) J.size
 glob:=hM.glob.mono (λ_ _ h=>h) (J.prot true)
end Go.Ab
end
section
namespace Go.Ab
variable [cF]
theorem aA{α:Type}{c:Bool}{x:Option α}{y:α}:guardB c x=some y↔c=true/\x=some y:=by
 cases c<;>simp[guardB]
theorem kS{a b:IntKind}:iK a b=true↔a=b:=by cases a<;>cases b<;>simp[iK]
section
variable {P:Program}
def lC(P:Program)(G:Gh)(w:World)(mem:aK)(o:Oper)(a:Act)(out:dI):Prop:=
 ∃G' w' nx cv,(execOp a.eval o).run P w= .ok nx w'/\(nx= .value cv\/(nx= .skip/\cv=undef))/\VR G' w' out.v cv/\c5 G G'/\Ev G w w'/\aH G' w' (out.apply mem)
theorem Ha(v:AV)(rd:List Nat)(mem:aK):({v,rd}:dI).apply mem=mem:=by simp[dI.apply,aN]
theorem lC.pure{G:Gh}{w:World}{mem:aK}{o:Oper}{a:Act}{v:AV}{rd:List Nat}{cv:Value}(hM:aH G w mem)
  (H:(execOp a.eval o).run P w= .ok (.value cv) w) (J:VR G w v cv):lC P G w mem o a {v,rd}:=
 ⟨G,w,.value cv,cv,H,.inl rfl,J,c5.refl G,Ev.refl G w,by rw[Ha];exact hM⟩
def Rw(G:Gh)(w:World)(ρ:Operand->Option AV)(a:Act):Prop:= ∀x v,ρ x=some v->VR G w v (a.eval x)
theorem VR.lit_inv{G:Gh}{w:World}{v cv:Value}(h:VR G w (.lit v) cv):cv=v:=by cases h;rfl
theorem KK(w:World){t:TypeId}(a b:Bool)(h:P.underlying t=some .bool):(binOp .eql t (.bool a) (.bool b)).run P w= .ok (.bool (a==b)) w:=by
 have:(Op.equal t (.bool a) (.bool b)).run P w= .ok (a==b) w:=run_equalIn_bool w 9999 t a b h;simp only[binOp];simp[this]
theorem J6(w:World){t:TypeId}(a b:Bool)(h:P.underlying t=some .bool):(binOp .neq t (.bool a) (.bool b)).run P w= .ok (.bool (!(a==b))) w:=by
 have:(Op.equal t (.bool a) (.bool b)).run P w= .ok (a==b) w:=run_equalIn_bool w 9999 t a b h;simp only[binOp];simp[this]
theorem MZ{op:BinOp}{t:TypeId}{x y:Operand}{a b r:Value}{w:World}(H:FX P t a b=true)(h:sD op a b=some r):
  (eqGuard op t x y a b).run P w= .ok () w/\(binOp op t a b).run P w= .ok r w:=by
 unfold sD at h;split at h
 ·rename_i k a k' b;refine⟨by rw[eqGuard_at_int];rfl,?_⟩;split at h<;>simp only[aA,Option.some.injEq,decide_eq_true_eq,yw,beq_eq_false_iff_ne,ne_eq]at h
  ·obtain⟨M,rfl⟩:=h;simp[binOp,Op.shift,Int.not_lt.2 M]
  ·obtain⟨M,rfl⟩:=h;simp[binOp,Op.shift,Int.not_lt.2 M]
  all_goals
   first
   |(obtain⟨J,K,rfl⟩:=h;rw[kS]at J;subst J;simp[binOp,Op.intDiv,K])
   |(obtain⟨J,rfl⟩:=h;rw[kS]at J;subst J;simp[binOp,Op.intArith,Op.intBits,Op.intCmp])
 ·rename_i a b;have K:P.underlying t=some .bool:=by
   simp only[FX,Kl]at H;split at H<;>simp_all
  refine⟨by rw[eqGuard_at_bool];rfl,?_⟩;split at h<;>simp only[Option.some.injEq,reduceCtorEq]at h
  ·subst h;exact KK w a b K
  ·subst h;exact J6 w a b K
 ·rename_i a b;refine⟨by rw[eqGuard_at_string];rfl,?_⟩;split at h<;>simp only[Option.some.injEq,reduceCtorEq]at h
  ·subst h;simp[binOp,Op.stringOp]
  ·subst h;simp[binOp,Op.stringOp]
 ·simp at h
theorem Ia{op:BinOp}{a b r:Value}(h:sD op a b=some r):mW r=true:=by
 unfold sD at h
 repeat' split at h
 all_goals (simp only[aA,Option.some.injEq,reduceCtorEq]at h)
 all_goals first
  |(subst h;rfl)
  |(obtain⟨_,rfl⟩:=h;rfl)
  |(obtain⟨_,_,rfl⟩:=h;rfl)
theorem KJ{op:UnOp}{a r:Value}(h:IC op a=some r):mW r=true:=by
 unfold IC at h;split at h<;>simp only[Option.some.injEq,reduceCtorEq]at h<;>subst h<;>rfl
theorem Qi{op:UnOp}{a r:Value}{w:World}(h:IC op a=some r):(Op.unary op a).run P w= .ok r w:=by
 unfold IC at h;split at h<;>simp only[Option.some.injEq,reduceCtorEq]at h<;>subst h<;>simp[Op.unary,Op.intArith,Op.intBits]
theorem Du{t:TypeId}{d:TypeDesc}(J:P.underlying t=some d)(h1: ∀fs,d≠ .struct fs)(h2: ∀n e,d≠ .array n e){cs:Array Value}{o:Nat}{v:Value}(K:cs[o]?=some v)(w:World):
  (part t cs o).run P w= .ok v w:=by
 have H:(isAgg t).run P w= .ok false w:=by
  simp only[isAgg,Sem.run_bind,run_underlying J,Result.andThen_ok];rfl
 simp only[part,Sem.run_bind,H,Result.andThen_ok,yr2,if_false,K];rfl
theorem Kp(d:Nat)(G:Gh)(w:World): ∀(fs:List Field) (n:Nat) (xs J:List AV) (as bs:List Value) (A B:Array Value) (r:Bool),
  (xs.length=as.length/\∀(j:Nat) (y:AV),xs[j]?=some y->VR G w y (as.getD j undef))->(J.length=bs.length/\∀(j:Nat) (y:AV),J[j]?=some y->VR G w y (bs.getD j undef))->
  (∀j:Nat,j<as.length->A[n+j]?=as[j]?)->(∀j:Nat,j<bs.length->B[n+j]?=bs[j]?)->lY P fs n xs J=some r->
  (Op.eqFields (d+1) A B fs).run P w= .ok r w:=by
 intro fs
 induction fs with
 |nil=>
  intro n xs J as bs A B r _ _ _ _ h;cases xs<;>cases J<;>simp[lY]at h;subst h;simp[Op.eqFields]
 |cons f fs ih=>
  intro n xs J as bs A B r ha Z hA hB h;cases xs with
  |nil=>simp[lY]at h
  |cons x xs=>
  cases J with
  |nil=>simp[lY]at h
  |cons y J=>
  cases as with
  |nil=>simp at ha
  |cons a as=>
  cases bs with
  |nil=>simp at Z
  |cons b bs=>
   have h1:=ha.2 0 x rfl;have Y:=Z.2 0 y rfl;simp only[List.getD_cons_zero]at h1 Y;have ha':xs.length=as.length/\∀(j:Nat) (y:AV),xs[j]?=some y->VR G w y (as.getD j undef):=⟨by simpa using ha.1,λj y hy=>by simpa using ha.2 (j+1) y (by simpa using hy)⟩
   have hb':J.length=bs.length/\∀(j:Nat) (y:AV),J[j]?=some y->VR G w y (bs.getD j undef):=⟨by simpa using Z.1,λj y hy=>by simpa using Z.2 (j+1) y (by simpa using hy)⟩
   simp only[lY,aA,yc,bne_iff_ne,ne_eq]at h;obtain⟨⟨hn,H⟩,h⟩:=h;have H:=Nat.eq_of_beq_eq_true H;obtain⟨q,N,h⟩:=yy1.1 h;obtain⟨r',hr,rfl⟩:=ye.1 h;have h0a:A[f.offset]?=some a:=by rw[H];simpa using hA 0 (by simp)
   have h0b:B[f.offset]?=some b:=by rw[H];simpa using hB 0 (by simp)
   have M:(Op.equalIn (d+1) f.type a b).run P w= .ok q w/\∃W,P.underlying f.type=some W/\(∀fs,W≠ .struct fs)/\(∀n e,W≠ .array n e):=by
    unfold De at N;split at N
    ·rename_i k1 k x k' y K;obtain⟨hk,hq2⟩:=aA.1 N;rw[kS]at hk;subst hk;obtain rfl:=h1.lit_inv;obtain rfl:=Y.lit_inv;obtain rfl:=ya hq2;exact⟨run_equalIn_int w d f.type k k1 x y K,_,K,by simp,by simp⟩
    ·rename_i x y K;obtain rfl:=h1.lit_inv;obtain rfl:=Y.lit_inv;obtain rfl:=ya N;exact⟨run_equalIn_bool w d f.type x y K,_,K,by simp,by simp⟩
    ·rename_i x y K;obtain rfl:=h1.lit_inv;obtain rfl:=Y.lit_inv;obtain rfl:=ya N;exact⟨run_equalIn_string w d f.type x y K,_,K,by simp,by simp⟩
    ·simp at N
   obtain⟨hqr,W,U,O,V⟩:=M;have e1:(Op.eqFields (d+1) A B (f::fs)).run P w=(if(!q)=true then(Pure.pure false:Sem Bool)else Op.eqFields (d+1) A B fs).run P w:=by
    simp only[Op.eqFields];rw[if_pos hn];simp only[Sem.run_bind,Du U O V h0a,Du U O V h0b,hqr,Result.andThen_ok]
   rw[e1];cases q with
   |false=>rfl
   |true=>
    rw[yo2];refine Eq.trans ?_<|ih (n+1) xs J as bs A B r' ha' hb' (λj hj=>by have:=hA (j+1) (by simpa using hj);rw[show n+1+j=n+(j+1) by omega];simpa using this)
     (λj hj=>by have:=hB (j+1) (by simpa using hj);rw[show n+1+j=n+(j+1) by omega];simpa using this) hr
    rfl
theorem VR.agg_inv{G:Gh}{w:World}{cs:List AV}{cv:Value}(h:VR G w (.agg cs) cv): ∃cvs:Array Value,cv= .agg cvs/\pY G w cs cvs:=by
 cases h with
 |agg _ cvs H h=>exact⟨cvs,rfl,H,h⟩
theorem Am{G:Gh}{w:World}{t:TypeId}{xs J:List AV}{A B:Array Value}{r:Bool}(h:nY P t xs J=some r)(M:pY G w xs A)(K:pY G w J B)(x y:Operand):
  (Op.equalIn 10000 t (.agg A) (.agg B)).run P w= .ok r w/\P.eqGuardType P.depth t=false:=by
 unfold nY at h;split at h
 ·rename_i fs N;obtain⟨hc,h⟩:=aA.1 h;simp only[yc,yw]at hc;have hf:P.fieldsOf t=fs:=by simp[Program.fieldsOf,N]
  refine⟨?_,hc.2⟩;rw[show(10000:Nat)=9999+1 from rfl,run_equalIn_agg w 9999 t A B (by rw[hf];exact N) hc.1,hf];have O: ∀(C:Array Value) (j:Nat),C.toList.getD j undef=C.getD j undef:=by
   intro C j;simp[ym,yp]
  exact Kp 9998 G w fs.toList 0 xs J A.toList B.toList A B r ⟨by simpa using M.1,λj y H=>by rw[O];exact M.2 j y H⟩ ⟨by simpa using K.1,λj y H=>by rw[O];exact K.2 j y H⟩
   (λj _=>by simp) (λj _=>by simp) h
 ·simp at h
theorem VR.tree_slice{G:Gh}{w:World}{β:Bool}{p:PV}{J:Value}{e:Bool}(O:VR G w (.imm β p) J)(h:lE p=some e): ∃a l c,J= .slice a l c/\(e=false->a.isNone=false):=by
 cases O with
 |imm _ _ _ M hs=>
  cases M with
  |lit _ _=>cases h
  |intsNil k a=>simp only[lE,Option.some.injEq]at h;subst h;exact⟨_,_,_,rfl,λh=>by cases h⟩
  |ints k xs B o cap H N=>exact⟨_,_,_,rfl,λ_=>rfl⟩
  |slNil k a=>simp only[lE,Option.some.injEq]at h;subst h;exact⟨_,_,_,rfl,λh=>by cases h⟩
  |sl e' xs B o cap cv he H K N h3 h4=>exact⟨_,_,_,rfl,λ_=>rfl⟩
  |agg _ _ _ _=>cases h
 |unkB b=>cases h
 |dead _ _ _=>cases h
theorem MJ{t:TypeId}(h:Be P t=true): ∃e,P.underlying t=some (.slice e):=by
 unfold Be at h;split at h
 ·rename_i e H;exact⟨e,H⟩
 ·cases h
theorem gP{G:Gh}{w:World}(op:BinOp)(t:TypeId)(x y:Operand)(a b:Option Addr)(l c H J:Nat):(eqGuard op t x y (.slice a l c) (.slice b H J)).run P w= .ok () w:=by
 unfold eqGuard;split<;>rfl
theorem Fu{w:World}(d:Nat){t e:TypeId}{a:Option Addr}{l c:Nat}(H:P.underlying t=some (.slice e)):(Op.equalIn (d+1) t (.slice a l c) (.slice none 0 0)).run P w= .ok a.isNone w:=by
 cases a<;>simp[Op.equalIn,run_underlying H]
theorem nR{G:Gh}{w:World}{op:BinOp}{t:TypeId}{a:Option Addr}{l c:Nat}(hs:Be P t=true):
  (binOp .eql t (.slice a l c) (.slice none 0 0)).run P w= .ok (.bool a.isNone) w/\(binOp .neq t (.slice a l c) (.slice none 0 0)).run P w= .ok (.bool (!a.isNone)) w:=by
 obtain⟨e,H⟩:=MJ hs;have h:(Op.equal t (.slice a l c) (.slice none 0 0)).run P w= .ok a.isNone w:=Fu 9999 H;constructor
 ·simp only[binOp,Sem.run_bind,h,Result.andThen_ok];rfl
 ·simp only[binOp,Sem.run_bind,h,Result.andThen_ok];rfl
theorem Sd{G:Gh}{w:World}{op:BinOp}{t:TypeId}{x y:Operand}{a b r:AV}{N V:Value}(h:vN P op t a b=some r)(H:VR G w a N)(K:VR G w b V):
    ∃cv,(eqGuard op t x y N V).run P w= .ok () w/\(binOp op t N V).run P w= .ok cv w/\VR G w r cv:=by
  unfold vN at h;split at h
  · rename_i β p
    obtain rfl:=K.lit_inv;split at h
    · obtain⟨hs,h⟩:=aA.1 h
      obtain⟨e,U,rfl⟩:=ye.1 h;obtain⟨Y,l,c,rfl,hn⟩:=H.tree_slice U;refine⟨.bool Y.isNone,gP (G:=G) _ t x y _ _ _ _ _ _,(nR (G:=G) (op:= .eql) hs).1,?_⟩;cases e with
      |true=>exact .unkB _
      |false=>rw[hn rfl];exact .lit _ rfl
    · obtain⟨hs,h⟩:=aA.1 h
      obtain⟨e,U,rfl⟩:=ye.1 h;obtain⟨Y,l,c,rfl,hn⟩:=H.tree_slice U;refine⟨.bool (!Y.isNone),gP (G:=G) _ t x y _ _ _ _ _ _,(nR (G:=G) (op:= .neq) hs).2,?_⟩;cases e with
      |true=>exact .unkB _
      |false=>rw[hn rfl];exact .lit _ rfl
    · cases h
  · obtain rfl:=H.lit_inv;obtain rfl:=K.lit_inv
    split at h
    · obtain⟨hs,h⟩:=aA.1 h
      obtain rfl:=ya h;exact⟨.bool true,gP (G:=G) _ t x y _ _ _ _ _ _,(nR (G:=G) (op:= .eql) hs).1,.lit _ rfl⟩
    · obtain⟨hs,h⟩:=aA.1 h
      obtain rfl:=ya h;exact⟨.bool false,gP (G:=G) _ t x y _ _ _ _ _ _,(nR (G:=G) (op:= .neq) hs).2,.lit _ rfl⟩
    · cases h
  · rename_i a b _
    obtain⟨Z,h⟩:=aA.1 h;obtain⟨v,hv,rfl⟩:=ye.1 h;obtain rfl:=H.lit_inv;obtain rfl:=K.lit_inv;obtain⟨M,J⟩:=MZ (P:=P) (x:=x) (y:=y) (w:=w) Z hv;exact⟨v,M,J,.lit v (Ia hv)⟩
  · rename_i as bs
    obtain⟨A,rfl,hA⟩:=H.agg_inv;obtain⟨B,rfl,hB⟩:=K.agg_inv;split at h
    · obtain⟨q,W,rfl⟩:=ye.1 h
      obtain⟨M,J⟩:=Am W hA hB x y;exact⟨.bool q,run_eqGuard_agg w _ t x y A B J,by rw[run_eql_struct,M];rfl,.lit _ rfl⟩
    · obtain⟨q,W,rfl⟩:=ye.1 h
      obtain⟨M,J⟩:=Am W hA hB x y;exact⟨.bool (!q),run_eqGuard_agg w _ t x y A B J,by rw[run_neq_struct,M];rfl,.lit _ rfl⟩
    · simp at h
  all_goals first
    |(simp at h;done)
    | (obtain rfl := K.lit_inv
       have hp: ∃p,N= .pointer (some p):=by cases H<;>exact⟨_,rfl⟩
       obtain⟨p,rfl⟩:=hp;split at h
       · obtain⟨hc,h⟩:=aA.1 h
         have O:P.underlying t=some (.pointer (P.pointee t)):=by
           unfold IF at hc;split at hc<;>simp_all[Program.pointee]
         simp only[Option.some.injEq]at h;subst h;exact⟨.bool false,by rw[eqGuard_at_pointer];rfl,by rw[run_eql_pointer_nil w t _ O];rfl,.lit _ rfl⟩
       · obtain⟨hc,h⟩:=aA.1 h
         have O:P.underlying t=some (.pointer (P.pointee t)):=by
           unfold IF at hc;split at hc<;>simp_all[Program.pointee]
         simp only[Option.some.injEq]at h;subst h;exact⟨.bool true,by rw[eqGuard_at_pointer];rfl,by rw[run_neq_pointer_nil w t _ O];rfl,.lit _ rfl⟩
       · simp at h)
end
end Go.Ab
end
section
namespace Go.Ab
variable [cF]
section
variable {P:Program}
theorem bind_some{α β:Type}{x:Option α}{f:α->Option β}{y:β}:x.bind f=some y↔∃a,x=some a/\f a=some y:=yy1
theorem Do{α:Type}{c:Bool}{a b:α}:(bif c then some a else none)=some b↔c=true/\a=b:=by cases c<;>simp
theorem bN{a b:Nat}:Nat.beq a b=true↔a=b:=⟨Nat.eq_of_beq_eq_true,λh=>by subst h;exact yg3 a⟩
theorem cO{a b:Nat}:Nat.ble a b=true↔a≤b:=by rw[Nat.ble_eq]
theorem zV{t:TypeId}{b:Bool}(h:isAgg? P t=some b)(w:World):(isAgg t).run P w= .ok b w:=by
 unfold isAgg? at h;split at h
 ·rename_i d;simp only[isAgg,Sem.run_bind,run_underlying d,Result.andThen_ok];obtain rfl:=ya h;rfl
 ·rename_i d;simp only[isAgg,Sem.run_bind,run_underlying d,Result.andThen_ok];obtain rfl:=ya h;rfl
 ·rename_i H J K d;obtain rfl:=ya h;simp only[isAgg,Sem.run_bind,run_underlying d,Result.andThen_ok];cases H<;>first|rfl|exact absurd rfl (J _)|exact absurd rfl (K _ _)
 ·simp at h
theorem SB{t:TypeId}{n:Nat}(h:jR P t=some n): ∃i,P.info? t=some i/\i.size=n:=by
 unfold jR at h;obtain⟨i,H,hn⟩:=ye.1 h;exact⟨i,H,hn⟩
theorem eR{t:TypeId}{n:Nat}(h:jR P t=some n)(w:World):(sizeOf t).run P w= .ok n w:=by
 obtain⟨i,H,rfl⟩:=SB h;simp[sizeOf,typeInfo,H]
theorem dC(B o n:Nat):(⟨B,o,none⟩:Addr).add n=⟨B,o+n,none⟩:=by
 unfold Addr.add;split<;>simp_all
theorem mY{t:TypeId}{n B o:Nat}(K:isAgg? P t=some true)(hn:jR P t=some n){w:World}(f:Nat->Value)(h: ∀j,j<n->cl w B (o+j)=some (f j)):
  (loadVar t ⟨B,o,none⟩).run P w= .ok (.agg ((List.range n).map f).toArray) w:=by
 have H:=run_loadCells (P:=P) w ⟨B,o,none⟩ n f (λj J=>by rw[dC];exact h j J);simp only[loadVar,Sem.run_bind,zV K,eR hn,Result.andThen_ok,if_true,H,Sem.run_pure]
theorem jI{t:TypeId}{B o:Nat}(J:isAgg? P t=some false){w:World}{v:Value}(h:cl w B o=some v):
  (loadVar t ⟨B,o,none⟩).run P w= .ok v w:=by
 have H:w.cell? ⟨B,o,none⟩=some v:=h;simp only[loadVar,Sem.run_bind,zV J,Result.andThen_ok,yr2,if_false,run_load,H]
theorem PR.lit_inv{w:World}{H:Nat->Nat->Prop}{v cv:Value}(h:PR w H (.lit v) cv):cv=v:=by cases h;rfl
theorem rT{G:Gh}{w:World}{β:Bool}{l:LK}{q:PV}{a:AV}{v:Value}(h:gJ β l q=some a)(K:PR w (G.prot β) q v):VR G w a v:=by
 unfold gJ at h;split at h
 ·rw[bind_some]at h;obtain⟨x,H,h⟩:=h;obtain rfl:=ya h;unfold PV.int? at H;split at H
  ·rename_i M n;rw[Do]at H;obtain⟨J,H⟩:=H;subst H;rw[kS]at J;subst J;rw[K.lit_inv];exact .lit _ rfl
  ·simp at H
 ·rw[bind_some]at h;obtain⟨x,H,h⟩:=h;obtain rfl:=ya h;unfold PV.bool? at H;split at H
  ·obtain rfl:=ya H;rw[K.lit_inv];exact .lit _ rfl
  ·simp at H
 ·rw[bind_some]at h;obtain⟨x,H,h⟩:=h;obtain rfl:=ya h;unfold PV.str? at H;split at H
  ·obtain rfl:=ya H;rw[K.lit_inv];exact .lit _ rfl
  ·simp at H
 ·rw[bind_some]at h;obtain⟨x,H,h⟩:=h;obtain rfl:=ya h;unfold PV.ints? at H;split at H
  ·rename_i M xs;rw[Do]at H;obtain⟨J,H⟩:=H;subst H;rw[kS]at J;subst J;exact .imm β _ v K rfl
  ·simp at H
 ·rw[bind_some]at h;obtain⟨x,H,h⟩:=h;obtain rfl:=ya h;unfold PV.sl? at H;split at H
  ·rename_i e' xs;rw[Do]at H;obtain⟨J,H⟩:=H;subst H;rw[bN]at J;subst J;exact .imm β _ v K rfl
  ·simp at H
theorem oS{G:Gh}{w:World}{β:Bool}{cs:List PV}: ∀{ls:List LK} {c:Nat} {as:List AV},iI β cs ls c=some as->
  as.length=ls.length/\∀(f:Nat->Value),(∀(j:Nat) (y:PV),cs[c+j]?=some y->j<ls.length->PR w (G.prot β) y (f j))->
   (∀j,j<ls.length->∃y,cs[c+j]?=some y)/\∀(j:Nat) (y:AV),as[j]?=some y->VR G w y (f j)
 | [],c,as,h=>by
  simp[iI]at h;subst h;exact⟨rfl,λf _=>⟨λj J=>absurd J (by simp),λj y H=>by simp at H⟩⟩
 |l::r,c,as,h=>by
  simp only[iI]at h;rw[bind_some]at h;obtain⟨q,M,h⟩:=h;rw[bind_some]at h;obtain⟨a,U,h⟩:=h;rw[bind_some]at h;obtain⟨O,K,h⟩:=h;obtain rfl:=ya h;obtain⟨W,N⟩:=oS (G:=G) (w:=w) K;refine⟨by simp[W],λf hf=>?_⟩;obtain⟨V,Y⟩:=N (λj=>f (j+1)) (λj y H J=>hf (j+1) y (by rw[show c+(j+1)=c+1+j by omega];exact H) (by simpa using J));refine⟨λj J=>?_,λj y H=>?_⟩
  ·cases j with
   |zero=>exact⟨q,M⟩
   |succ j=>obtain⟨y,H⟩:=V j (by simpa using J);exact⟨y,by rw[show c+(j+1)=c+1+j by omega];exact H⟩
  ·cases j with
   |zero=>simp at H;subst H;exact rT U (hf 0 q M (by simp))
   |succ j=>exact Y j y (by simpa using H)
theorem I5{G:Gh}{w:World}{β:Bool}{t:TypeId}{p:PV}{c B o:Nat}{a:AV}{cv:Nat->Value}(h:Pq P β t p c=some a)
  (hc: ∀j y,p.cells[j]?=some y->cl w B (o+j)=some (cv j)) (hr: ∀j y,p.cells[j]?=some y->PR w (G.prot β) y (cv j)):
  ∃v,(loadVar t ⟨B,o+c,none⟩).run P w= .ok v w/\VR G w a v:=by
 unfold Pq at h;split at h
 ·rename_i H;rw[bind_some]at h;obtain⟨ls,V,h⟩:=h;rw[bind_some]at h;obtain⟨n,hn,h⟩:=h;rw[aA]at h;obtain⟨M,h⟩:=h;obtain rfl:=bN.1 M;rw[bind_some]at h;obtain⟨as,K,h⟩:=h;obtain rfl:=ya h;obtain⟨N,hf⟩:=oS (G:=G) (w:=w) K;obtain⟨Y,W⟩:=hf (λj=>cv (c+j)) (λj y J _=>hr _ y J);refine⟨_,mY H hn (λj=>cv (c+j)) (λj O=>?_),.agg _ _ (by simp[N]) λj y J=>?_⟩
  ·obtain⟨y,J⟩:=Y j O;rw[show o+c+j=o+(c+j) by omega];exact hc _ y J
  ·have O:j<ls.length:=by rw[<-N];exact(yd.1 J).1
   have:=W j y J;simpa[yp,O]using this
 ·rename_i H;rw[bind_some]at h;obtain⟨l,N,h⟩:=h;rw[bind_some]at h;obtain⟨q,U,h⟩:=h;exact⟨cv c,jI H (hc c q U),rT h (hr c q U)⟩
 ·simp at h
theorem box?_some{mem:aK}{b g:Nat}{x:bK}(h:box? mem b g=some x):mem[b]?=some (some x)/\x.gen=g:=by
 unfold box? at h;split at h
 ·rename_i y e;cases H:Nat.beq y.gen g<;>cases J:y.row.isOwn<;>simp[H,J]at h;subst h;exact⟨e,bN.1 H⟩
 ·simp at h
theorem box?_own{mem:aK}{b g:Nat}{x:bK}(h:box? mem b g=some x):x.row.isOwn=false:=by
 unfold box? at h;split at h
 ·rename_i y e;cases J:Nat.beq y.gen g<;>cases H:y.row.isOwn<;>simp[J,H]at h;subst h;exact H
 ·simp at h
theorem boxO?_some{mem:aK}{b g:Nat}{x:bK}(h:boxO? mem b g=some x):mem[b]?=some (some x)/\x.gen=g/\x.row.isOwn=true:=by
 unfold boxO? at h;split at h
 ·rename_i y e;cases J:Nat.beq y.gen g<;>cases H:y.row.isOwn<;>simp[J,H]at h;subst h;exact⟨e,bN.1 J,H⟩
 ·simp at h
theorem aH.at_ptr'{G:Gh}{w:World}{mem:aK}(hM:aH G w mem){b g i c:Nat}{x:bK}{cv:Value}(hm:mem[b]?=some (some x))(J:x.gen=g)(h:VR G w (.ptr b g i c) cv):
  ∃B a,cv= .pointer (some ⟨B,a+(i*x.row.e+c),none⟩)/\G.loc b g=some ⟨some B,x.row.e,x.row.len,a⟩/\(x.row.isInts=false->a=0)/\G.mine B/\B<w.heap.size/\
   gW w B/\iD G w B a x.row/\(x.frz=false->∀β o,¬G.prot β B o):=by
 subst J;have O:=hM.box b x hm;obtain⟨o,U,K,H,hr⟩:=O.loc;cases h with
 |ptr _ _ _ _ L B hL hB=>
  rw[K]at hL;obtain rfl:=ya hL;simp only at hB;subst hB;obtain⟨Y,M,N,V,W⟩:=hr;exact⟨B,U,rfl,K,H,Y,M,N,V,W⟩
theorem aH.at_ptr{G:Gh}{w:World}{mem:aK}(hM:aH G w mem){b g i c:Nat}{x:bK}{cv:Value}(H:box? mem b g=some x)(h:VR G w (.ptr b g i c) cv):
  ∃B a,cv= .pointer (some ⟨B,a+(i*x.row.e+c),none⟩)/\G.loc b g=some ⟨some B,x.row.e,x.row.len,a⟩/\(x.row.isInts=false->a=0)/\G.mine B/\B<w.heap.size/\
   gW w B/\iD G w B a x.row/\(x.frz=false->∀β o,¬G.prot β B o):=hM.at_ptr' (box?_some H).1 (box?_some H).2 h
theorem El{G:Gh}{w:World}{mem:aK}{t:TypeId}{a:AV}{out:dI}{cv:Value}(hM:aH G w mem)(h:jY P t mem a=some out)(ha:VR G w a cv):
  ∃v rd,out={v,rd}/\∃H,(Instr.loadAt t cv).run P w= .ok H w/\VR G w v H:=by
 unfold jY at h;split at h
 ·rename_i β p c;obtain⟨v,U,rfl⟩:=ye.1 h;refine⟨v,[],rfl,?_⟩;cases ha with
  |el _ _ _ B o f h hr=>
   obtain⟨H,V,K⟩:=I5 (P:=P) (w:=w) (o:=o) (B:=B) U (λj y Y=>(h j y Y).1) hr;exact⟨H,by simp[Instr.loadAt,Instr.sureAddr,V],K⟩
 ·rename_i b g i c;rw[bind_some]at h;obtain⟨x,hx,h⟩:=h;obtain⟨B,a0,rfl,hl,ha0,hmine,hB,hfz,O,hpr⟩:=hM.at_ptr hx ha;have M: ∀H,(loadVar t ⟨B,a0+(i*x.row.e+c),none⟩).run P w= .ok H w->(Instr.loadAt t (.pointer (some ⟨B,a0+(i*x.row.e+c),none⟩))).run P w= .ok H w:=by
   intro H hh;simp[Instr.loadAt,Instr.sureAddr,hh]
  obtain⟨gen,frz,row⟩:=x;split at h
  ·rename_i e cs J;simp only at J;subst J;obtain rfl:=ha0 rfl;simp only[yc1]at M⊢
   rw[bind_some]at h;obtain⟨ag,W,h⟩:=h;obtain⟨_,N⟩:=O;cases ag with
   |true=>
    simp only[yg]at h;rw[bind_some]at h;obtain⟨n,hn,h⟩:=h;rw[aA]at h;obtain⟨hle,h⟩:=h;have hle:=cO.1 hle;obtain rfl:=ya h;refine⟨_,_,rfl,_,M _ (mY W hn (λj=>(cl w B (i*e+c+j)).getD undef) (λj hj=>?_)),.agg _ _ ?_ ?_⟩
    ·obtain⟨v,U,_,_⟩:=N (i*e+c+j) (cs[i*e+c+j]'(by omega)) (yf _);show cl w B _=_;simp only[aZ.e];rw[U];rfl
    ·simp;omega
    ·intro j y Y;have hj:j<n:=by have:=(yd.1 Y).1;simp at this;omega
     have hy':cs[i*e+c+j]?=some y:=by
      rw[yp1 hj,ye1]at Y;exact Y
     obtain⟨v,U,_,K⟩:=N _ y hy';simpa[yp,hj,U]using K
   |false=>
    simp only[yh]at h;obtain⟨v,U,rfl⟩:=ye.1 h;obtain⟨u,Z,_,K⟩:=N _ v U;exact⟨_,_,rfl,u,M _ (jI W Z),K⟩
  ·rename_i k xs J;simp only at J;subst J;rw[aA]at h;obtain⟨hc0,h⟩:=h;obtain rfl:=bN.1 hc0;rw[aA]at h;obtain⟨W,h⟩:=h;obtain⟨v,U,rfl⟩:=ye.1 h;have hc:=O i v U;have hag':isAgg? P t=some false:=by
    cases hh:isAgg? P t with
    |none=>simp[hh]at W
    |some q=>cases q<;>simp[hh]at W⊢
   exact⟨_,_,rfl,_,M _ (jI hag' (by simpa[aZ.e]using hc)),.lit _ rfl⟩
  ·rename_i β e xs J;simp only at J;subst J;obtain rfl:=ha0 rfl;simp only[yc1]at M⊢
   rw[bind_some]at h;obtain⟨p,hp,h⟩:=h;obtain⟨v,U,rfl⟩:=ye.1 h;obtain⟨_,N⟩:=O;obtain⟨H,V,K⟩:=I5 (P:=P) (w:=w) (G:=G) (o:=i*e) (B:=B) (cv:=λj=>(cl w B (i*e+j)).getD undef) U
    (λj y Y=>by obtain⟨u,Z,_,_⟩:=N i p j y hp Y;rw[Z];rfl)
    (λj y Y=>by obtain⟨u,Z,_,hpr⟩:=N i p j y hp Y;rw[Z];exact hpr)
   exact⟨_,_,rfl,H,M _ V,K⟩
  ·simp at h
 ·simp at h
end
end Go.Ab
end
section
namespace Go.Ab
variable [cF]
section
variable {P:Program}
theorem CF{α:Type}{xs:List α}{i:Int}{v:α}(h:aM xs i=some v):0≤i/\i.toNat<xs.length/\xs[i.toNat]?=some v:=by
 unfold aM at h;cases H:decide (0≤i)<;>simp only[H,yg,yh,reduceCtorEq]at h;exact⟨of_decide_eq_true H,(yd.1 h).1,h⟩
theorem gY(k:IntKind)(i:Int)(w:World):(asIntOf (.int k i)).run P w= .ok (k,i) w:=rfl
theorem d9{t H:TypeId}{s B o len cap:Nat}{k:IntKind}{i:Int}(J:P.underlying t=some (.slice H))(hs:jR P H=some s)(K:0≤i)(M:i<(len:Int))(w:World):
  (Instr.indexAt t (.slice (some ⟨B,o,none⟩) len cap) (.int k i)).run P w= .ok (.pointer (some ⟨B,o+i.toNat*s,none⟩)) w:=by
 simp only[Instr.indexAt,Sem.run_bind,gY,Result.andThen_ok,run_underlying J,Sem.run_pure,K,M,and_self,if_true,eR hs,dC]
theorem BB{t H:TypeId}{s B o n:Nat}{k:IntKind}{i:Int}(J:P.underlying t=some (.array n H))(hs:jR P H=some s)(K:0≤i)(M:i<(n:Int))(w:World):
  (Instr.indexAt t (.pointer (some ⟨B,o,none⟩)) (.int k i)).run P w= .ok (.pointer (some ⟨B,o+i.toNat*s,none⟩)) w:=by
 simp only[Instr.indexAt,Sem.run_bind,gY,Result.andThen_ok,run_underlying J,Sem.run_pure,K,M,and_self,if_true,eR hs,dC,Instr.sureAddr]
theorem aH.at_ms{G:Gh}{w:World}{mem:aK}(hM:aH G w mem){b g o n:Nat}{x:bK}{cv:Value}(W:box? mem b g=some x)(h:VR G w (.ms b g o n) cv):
  (∃ B a cap, cv = .slice (some ⟨B, a + o * x.row.e, none⟩) n cap ∧ n ≤ cap ∧ o + n ≤ x.row.len ∧ G.loc b g = some ⟨some B, x.row.e, x.row.len, a⟩ ∧ (x.row.isInts = false → a = 0) ∧ Dl w B (a + (o + cap) * x.row.e) ∧ G.mine B ∧ B < w.heap.size ∧
   gW w B/\iD G w B a x.row/\(x.frz=false->∀β o,¬G.prot β B o))\/
  (cv= .slice none 0 0/\o=0/\n=0/\x.row.len=0/\∃a,G.loc b g=some ⟨none,x.row.e,x.row.len,a⟩)\/
  (∃B K,cv= .slice (some ⟨B,K,none⟩) 0 0/\1≤o/\n=0/\o≤x.row.len/\∃a,G.loc b g=some ⟨some B,x.row.e,x.row.len,a⟩):=by
 obtain⟨hm,rfl⟩:=box?_some W;have V:=hM.box b x hm;obtain⟨K,Y,J,M,hr⟩:=V.loc;cases h with
 |ms _ _ _ _ cap L B hL hB hn H hf=>
  rw[J]at hL;obtain rfl:=ya hL;simp only at hB;subst hB;obtain⟨h1,O,U,Z,h5⟩:=hr;exact .inl ⟨B,Y,cap,rfl,hn,H,J,M,hf,h1,O,U,Z,h5⟩
 |msNil _ _ L hL hB=>
  rw[J]at hL;obtain rfl:=ya hL;simp only at hB;subst hB;exact .inr (.inl ⟨rfl,rfl,rfl,hr.1,_,J⟩)
 |msZ _ _ _ B K L hL hB N H=>
  rw[J]at hL;obtain rfl:=ya hL;simp only at hB;subst hB;exact .inr (.inr ⟨B,K,rfl,N,rfl,H,_,J⟩)
theorem aH.at_msw{G:Gh}{w:World}{mem:aK}(hM:aH G w mem){b g:Nat}{x:bK}{cv:Value}(O:box? mem b g=some x)(h:VR G w (.msw b g) cv):
  (∃ B a cap, cv = .slice (some ⟨B, a, none⟩) x.row.len cap ∧ x.row.len ≤ cap ∧ G.loc b g = some ⟨some B, x.row.e, x.row.len, a⟩ ∧ (x.row.isInts = false → a = 0) ∧ Dl w B (a + cap * x.row.e) ∧ G.mine B ∧ B < w.heap.size ∧
   gW w B/\iD G w B a x.row/\(x.frz=false->∀β o,¬G.prot β B o))\/
  (cv= .slice none 0 0/\x.row.len=0/\x.row.isCells=false/\∃a,G.loc b g=some ⟨none,x.row.e,x.row.len,a⟩):=by
 obtain⟨hm,rfl⟩:=box?_some O;have N:=hM.box b x hm;obtain⟨oo,U,H,J,hr⟩:=N.loc;cases h with
 |msw _ _ cap L B hL hB hn hf=>
  rw[H]at hL;obtain rfl:=ya hL;simp only at hB;subst hB;obtain⟨Y,K,M,V,W⟩:=hr;exact .inl ⟨B,U,cap,rfl,hn,H,J,hf,Y,K,M,V,W⟩
 |mswNil _ _ L hL hB hn=>
  rw[H]at hL;obtain rfl:=ya hL;simp only at hB;subst hB;exact .inr ⟨rfl,hr.1,hr.2,_,H⟩
theorem JN{G:Gh}{w:World}{mem:aK}{t:TypeId}{x:AV}{k:IntKind}{i:Int}{out:dI}{cv:Value}(hM:aH G w mem)(h:iY P t mem x i=some out)(W:VR G w x cv):
  ∃v rd,out={v,rd}/\∃U,(Instr.indexAt t cv (.int k i)).run P w= .ok U w/\VR G w v U:=by
 unfold iY at h;split at h
 ·rename_i et O;rw[bind_some]at h;obtain⟨s,hs,h⟩:=h;split at h
  ·rename_i β kk xs;rw[aA]at h;obtain⟨H,h⟩:=h;obtain rfl:=bN.1 H;rw[bind_some]at h;obtain⟨v,hv,h⟩:=h;obtain rfl:=ya h;obtain⟨N,J,Z⟩:=CF hv;refine⟨_,_,rfl,?_⟩;cases W with
   |imm _ _ _ hp=>
    cases hp with
    |intsNil=>simp at J
    |ints _ _ B o cap V hh=>
     refine⟨_,d9 O hs N (by omega) w,?_⟩;have:=hh _ _ Z;refine .el β _ 0 B (o+i.toNat*1) (λ_=> .int kk v) (λj y K=>?_) (λj y K=>?_)
     ·cases j with
      |zero=>simpa using this
      |succ j=>simp[PV.cells]at K
     ·cases j with
      |zero=>simp[PV.cells]at K;subst K;exact .lit _ rfl
      |succ j=>simp[PV.cells]at K
  ·rename_i β e xs;rw[aA]at h;obtain⟨H,h⟩:=h;obtain rfl:=bN.1 H;rw[bind_some]at h;obtain⟨v,hv,h⟩:=h;obtain rfl:=ya h;obtain⟨N,J,Z⟩:=CF hv;refine⟨_,_,rfl,?_⟩;cases W with
   |imm _ _ _ hp=>
    cases hp with
    |slNil=>simp at J
    |sl _ _ B o cap cv he V hlen hh h1' hr=>
     refine⟨_,d9 O hs N (by omega) w,?_⟩;exact .el β _ 0 B (o+i.toNat*s) (λj=>cv i.toNat j) (λj y K=>hh _ _ _ _ Z K) (λj y K=>hr _ _ _ _ Z K)
  ·rename_i b g o n;rw[bind_some]at h;obtain⟨bx,M,h⟩:=h;rw[aA]at h;obtain⟨hc,h⟩:=h;simp only[yc,decide_eq_true_eq]at hc;obtain⟨⟨H,N⟩,J⟩:=hc;obtain rfl:=bN.1 H;obtain rfl:=ya h;refine⟨_,_,rfl,?_⟩;rcases hM.at_ms M W with ⟨B,a0,cap,rfl,hn,hon,Y,_⟩|⟨rfl,rfl,rfl,_⟩|⟨B,oo,rfl,_,rfl,_⟩
   ·refine⟨_,d9 O hs N J w,?_⟩;have:=VR.ptr (G:=G) (w:=w) b g (o+i.toNat) 0 _ B Y rfl;simpa[yt1,ye2]using this
   ·simp at J;omega
   ·simp at J;omega
  ·rename_i b g;rw[bind_some]at h;obtain⟨bx,M,h⟩:=h;rw[aA]at h;obtain⟨hc,h⟩:=h;simp only[yc,decide_eq_true_eq]at hc;obtain⟨⟨H,N⟩,J⟩:=hc;obtain rfl:=bN.1 H;obtain rfl:=ya h;refine⟨_,_,rfl,?_⟩;rcases hM.at_msw M W with ⟨B,a0,cap,rfl,hn,Y,_⟩|⟨rfl,hz,_⟩
   ·refine⟨_,d9 O hs N J w,?_⟩;have:=VR.ptr (G:=G) (w:=w) b g i.toNat 0 _ B Y rfl;simpa using this
   ·rw[hz]at J;simp at J;omega
  ·simp at h
 ·rename_i n et O;rw[bind_some]at h;obtain⟨s,hs,h⟩:=h;split at h
  ·rename_i b g j c;rw[aA]at h;obtain⟨hc,h⟩:=h;simp only[yc,decide_eq_true_eq]at hc;obtain rfl:=ya h;refine⟨_,_,rfl,?_⟩;cases W with
   |ptr _ _ _ _ L B Y hb=>
    refine⟨_,BB O hs hc.1 hc.2 w,?_⟩;rw[ye2,ye2];exact .ptr b g j _ L B Y hb
  ·simp at h
 ·simp at h
theorem kC{y d:Nat}{i:Option Int}{n:Nat}(h:AT y i d=some n):(i=none/\n=d)\/(∃z,i=some z/\0≤z/\z≤(y:Int)/\n=z.toNat):=by
 cases i with
 |none=>exact .inl ⟨rfl,(ya h).symm⟩
 |some z=>
  simp only[AT]at h;rw[aA]at h;obtain⟨hc,h⟩:=h;simp only[yc,decide_eq_true_eq]at hc;exact .inr ⟨z,rfl,hc.1,hc.2,(ya h).symm⟩
def o4(o:Option Int)(v:Option Value):Prop:=
 match o,v with
 |none,none=>True
 |some i,some v=> ∃k,v= .int k i
 |_,_=>False
theorem cH{isSlice:Bool}{len cap:Nat}{lo hi mx:Option Int}{M Z vm:Option Value}{l h:Nat}(H:iA len lo hi mx=some (l,h))(hc:len≤cap)
  (Y:o4 lo M) (hh:o4 hi Z) (hm:o4 mx vm) (w:World):
  ∃m,(Instr.sliceBounds isSlice len cap M Z vm).run P w= .ok (l,h,m) w/\l≤h/\h≤len/\h≤m/\m≤cap:=by
 unfold iA at H;rw[aA]at H;obtain⟨hg,H⟩:=H;rw[bind_some]at H;obtain⟨m,h1,H⟩:=H;rw[bind_some]at H;obtain⟨h',h2,H⟩:=H;rw[bind_some]at H;obtain⟨l',h3,H⟩:=H;simp only[Option.some.injEq,Prod.mk.injEq]at H;obtain⟨rfl,rfl⟩:=H;rcases kC h1 with ⟨rfl,rfl⟩|⟨U,rfl,zm0,zm1,rfl⟩
 ·have:vm=none:=by cases vm<;>simp_all[o4]
  subst this;rcases kC h2 with ⟨rfl,rfl⟩|⟨J,rfl,O,zh1,rfl⟩
  ·have:Z=none:=by cases Z<;>simp_all[o4]
   subst this;rcases kC h3 with ⟨rfl,rfl⟩|⟨zl,rfl,K,V,rfl⟩
   ·have:M=none:=by cases M<;>simp_all[o4]
    subst this;exact⟨cap,by simp[Instr.sliceBounds],by omega,by omega,by omega,by omega⟩
   ·cases M with
    |none=>simp[o4]at Y
    |some v=>
     obtain⟨k,rfl⟩:=Y;exact⟨cap,by simp[Instr.sliceBounds,Instr.sliceBound,gY,K,V],by omega,by omega,by omega,by omega⟩
  ·cases Z with
   |none=>simp[o4]at hh
   |some v=>
    obtain⟨k,rfl⟩:=hh;have N:J≤(cap:Int):=by omega
    rcases kC h3 with ⟨rfl,rfl⟩|⟨zl,rfl,K,V,rfl⟩
    ·have:M=none:=by cases M<;>simp_all[o4]
     subst this;exact⟨cap,by simp[Instr.sliceBounds,Instr.sliceBound,gY,O,N],by omega,by omega,by omega,by omega⟩
    ·cases M with
     |none=>simp[o4]at Y
     |some v=>
      obtain⟨k,rfl⟩:=Y;have e:((J.toNat:Nat):Int)=J:=by omega
      have W:zl≤J:=by omega
      have mz: ¬(max J 0<zl):=by omega
      exact⟨cap,by simp[Instr.sliceBounds,Instr.sliceBound,gY,O,N,K,e,W,mz],by omega,by omega,by omega,by omega⟩
 ·cases vm with
  |none=>simp[o4]at hm
  |some v=>
   obtain⟨km,rfl⟩:=hm;have zm2:U≤(cap:Int):=by omega
   have em:((U.toNat:Nat):Int)=U:=by omega
   rcases kC h2 with ⟨rfl,rfl⟩|⟨J,rfl,O,zh1,rfl⟩
   ·simp at hg
   ·cases Z with
    |none=>simp[o4]at hh
    |some v=>
     obtain⟨k,rfl⟩:=hh;have N:J≤U:=by omega
     rcases kC h3 with ⟨rfl,rfl⟩|⟨zl,rfl,K,V,rfl⟩
     ·have:M=none:=by cases M<;>simp_all[o4]
      subst this;have mz: ¬(max U 0<J):=by omega
      exact⟨U.toNat,by simp[Instr.sliceBounds,Instr.sliceBound,gY,O,N,zm0,zm2,em,mz],by omega,by omega,by omega,by omega⟩
     ·cases M with
      |none=>simp[o4]at Y
      |some v=>
       obtain⟨k,rfl⟩:=Y;have e:((J.toNat:Nat):Int)=J:=by omega
       have W:zl≤J:=by omega
       have mz: ¬(max U 0<J):=by omega
       have mz2: ¬(max J 0<zl):=by omega
       have mp:J≤max U 0:=by omega
       have mp2:zl≤max J 0:=by omega
       exact⟨U.toNat,by simp[Instr.sliceBounds,Instr.sliceBound,gY,O,N,zm0,zm2,em,K,e,W,mz,mz2,mp,mp2],by omega,by omega,by omega,by omega⟩
end
end Go.Ab
end
section
namespace Go.Ab
variable [cF]
section
variable {P:Program}
def TU(G:Gh)(w:World)(P:Program)(s:Sem Value)(out:dI):Prop:=out.wr= []/\out.push= []/\∃cv,s.run P w= .ok cv w/\VR G w out.v cv
theorem a9{t K:TypeId}{s:Nat}(N:P.underlying t=some (.slice K))(hs:jR P K=some s){a:Option Addr}{len cap:Nat}{M H J:Option Value}{l h m:Nat}{w:World}
  (O:(Instr.sliceBounds true len cap M H J).run P w= .ok (l,h,m) w):
  (Instr.sliceAt t (.slice a len cap) M H J).run P w= .ok (.slice (if m=l then a else a.map (·.add (l*s))) (h-l) (m-l)) w:=by
 simp only[Instr.sliceAt,Instr.slice,Sem.run_bind,run_underlying N,Result.andThen_ok,O,eR hs,Sem.run_pure]
theorem CQ{t:TypeId}(K:P.underlying t=some .string){s:ByteArray}{J H:Option Value}{l h m:Nat}{w:World}
  (M:(Instr.sliceBounds false s.size s.size J H none).run P w= .ok (l,h,m) w):
  (Instr.sliceAt t (.string s) J H none).run P w= .ok (.string (s.extract l h)) w:=by
 simp[Instr.sliceAt,Instr.slice,run_underlying K,M]
theorem Ft{t K:TypeId}{s n B o:Nat}(N:P.underlying t=some (.array n K))(hs:jR P K=some s){M H J:Option Value}{l h m:Nat}{w:World}
  (O:(Instr.sliceBounds false n n M H J).run P w= .ok (l,h,m) w):
  (Instr.sliceAt t (.pointer (some ⟨B,o,none⟩)) M H J).run P w= .ok (.slice (some (if m=l then⟨B,o,none⟩else⟨B,o+l*s,none⟩)) (h-l) (m-l)) w:=by
 simp only[Instr.sliceAt,Instr.sureAddr,Sem.run_bind,run_underlying N,Result.andThen_ok,O,eR hs,Sem.run_pure,dC]
theorem l7{α:Type}{xs:List α}{l h i:Nat}{x:α}(H:((xs.take h).drop l)[i]?=some x):xs[l+i]?=some x/\l+i<h:=by
 rw[ye1]at H;have J:l+i<h:=by
  rcases yl2 (l+i) h with K|K
  ·exact K
  ·rw[yd1 (by simp;omega)]at H;cases H
 exact⟨by rw[yp1 J]at H;exact H,J⟩
theorem Bw{G:Gh}{w:World}{b g o n cap l h m:Nat}{B e N a:Nat}(H:G.loc b g=some ⟨some B,e,N,a⟩)(K:Dl w B (a+(o+cap)*e))(U:o+n≤N)
  (h1:l≤h) (h2:h≤n) (h3:h≤m) (h4:m≤cap):
  VR G w (.ms b g (o+l) (h-l)) (.slice (if m=l then(some ⟨B,a+o*e,none⟩:Option Addr)else(some (⟨B,a+o*e,none⟩:Addr)).map (·.add (l*e))) (h-l) (m-l)):=by
 have hf:Dl w B (a+(o+l+(m-l))*e):=λj W=>K j (yj2 W (Nat.add_le_add_left (ym2 _ (by omega)) _));by_cases J:m=l
 ·rw[if_pos J];have V:h-l=0:=by omega
  have O:m-l=0:=by omega
  rw[V,O];by_cases M:l=0
  ·subst M;rw[O]at hf;exact .ms b g o 0 0 _ B H rfl (by omega) (by simp;omega) (by simpa using hf)
  ·exact .msZ b g (o+l) B _ _ H rfl (by omega) (by simp;omega)
 ·rw[if_neg J];simp only[yl,dC];have:=VR.ms (G:=G) (w:=w) b g (o+l) (h-l) (m-l) _ B H rfl (by omega) (by simp;omega) hf;simpa[yt1,ye2]using this
theorem JS{G:Gh}{w:World}{mem:aK}{t:TypeId}{x:AV}{lo hi mx:Option Int}{vl vh vm:Option Value}{out:dI}{cv:Value}(hM:aH G w mem)(h:gL P t mem x lo hi mx=some out)(J:VR G w x cv)
  (hl:o4 lo vl) (hh:o4 hi vh) (hm:o4 mx vm):TU G w P (Instr.sliceAt t cv vl vh vm) out:=by
 unfold gL at h;split at h
 ·rename_i W;split at h
  ·rename_i s;rw[aA]at h;obtain⟨hmx,h⟩:=h;obtain⟨⟨l,M⟩,O,rfl⟩:=ye.1 h;obtain rfl:=J.lit_inv;have:mx=none:=by cases mx<;>simp_all
   subst this;have:vm=none:=by cases vm<;>simp_all[o4]
   subst this;obtain⟨m,hr,_⟩:=cH (P:=P) (isSlice:=false) O (ya1 _) hl hh hm w;exact⟨rfl,rfl,_,CQ W hr,.lit _ rfl⟩
  ·simp at h
 ·rename_i et W;rw[bind_some]at h;obtain⟨s,hs,h⟩:=h;split at h
  ·rename_i β k xs;rw[aA]at h;obtain⟨N,h⟩:=h;obtain rfl:=bN.1 N;obtain⟨⟨l,M⟩,O,rfl⟩:=ye.1 h;cases J with
   |imm _ _ _ hp=>
    cases hp with
    |intsNil _ a=>
     obtain⟨m,hr,Y,V,Z,h4⟩:=cH (P:=P) (isSlice:=true) (cap:=0) O (by simp) hl hh hm w;refine⟨rfl,rfl,_,a9 W hs (a:=a) (len:=0) (cap:=0) hr,?_⟩;simp at V;obtain rfl:l=0:=by omega
     obtain rfl:M=0:=by omega
     obtain rfl:m=0:=by omega
     exact .imm β _ _ (by simpa using PR.intsNil k _) rfl
    |ints _ _ B o cap hcap hh'=>
     obtain⟨m,hr,Y,V,Z,h4⟩:=cH (P:=P) (isSlice:=true) (cap:=cap) O hcap hl hh hm w;refine⟨rfl,rfl,_,a9 W hs hr,.imm β _ _ ?_ rfl⟩;have K:((xs.take M).drop l).length=M-l:=by simp;omega
     by_cases hml:m=l
     ·have:(xs.take M).drop l= []:=yu (by omega);rw[if_pos hml,this,show M-l=([]:List Int).length by simp;omega];exact .ints k [] B o _ (by simp) (λi x J=>by simp at J)
     ·rw[if_neg hml,<-K];simp only[yl,dC,yt3];refine .ints k _ B (o+l) _ (by rw[K];omega) (λi x J=>?_);obtain⟨J,_⟩:=l7 J;rw[ye2];exact hh' _ _ J
  ·rename_i β e xs;rw[aA]at h;obtain⟨N,h⟩:=h;obtain rfl:=bN.1 N;obtain⟨⟨l,M⟩,O,rfl⟩:=ye.1 h;cases J with
   |imm _ _ _ hp=>
    cases hp with
    |slNil _ a=>
     obtain⟨m,hr,Y,V,Z,h4⟩:=cH (P:=P) (isSlice:=true) (cap:=0) O (by simp) hl hh hm w;refine⟨rfl,rfl,_,a9 W hs (a:=a) (len:=0) (cap:=0) hr,?_⟩;simp at V;obtain rfl:l=0:=by omega
     obtain rfl:M=0:=by omega
     obtain rfl:m=0:=by omega
     exact .imm β _ _ (by simpa using PR.slNil s _) rfl
    |sl _ _ B o cap cv he hcap hlen0 hh' h1' hr'=>
     obtain⟨m,hr,Y,V,Z,h4⟩:=cH (P:=P) (isSlice:=true) (cap:=cap) O hcap hl hh hm w;refine⟨rfl,rfl,_,a9 W hs hr,.imm β _ _ ?_ rfl⟩;have K:((xs.take M).drop l).length=M-l:=by simp;omega
     by_cases hml:m=l
     ·have:(xs.take M).drop l= []:=yu (by omega);rw[if_pos hml,this,show M-l=([]:List PV).length by simp;omega];exact .sl s [] B o _ cv he (by simp) (λx J=>by simp at J) (λi x c y J=>by simp at J) (λi x c y J=>by simp at J) (λi x c y J=>by simp at J)
     ·rw[if_neg hml,<-K];simp only[yl,dC];refine .sl s _ B (o+l*s) _ (λi c=>cv (l+i) c) he (by rw[K];omega) (λx J=>hlen0 x (yf3 (List.mem_of_mem_drop J))) (λi x c y J hy=>?_) (λi x c y J hy=>h1' _ _ _ _ (l7 J).1 hy) (λi x c y J hy=>?_)
      ·obtain⟨J,_⟩:=l7 J;have:=hh' _ _ _ _ J hy;rw[show o+l*s+i*s+c=o+(l+i)*s+c by rw[yt1];omega];exact this
      ·obtain⟨J,_⟩:=l7 J;exact hr' _ _ _ _ J hy
  ·rename_i b g o n;rw[bind_some]at h;obtain⟨bx,hbx,h⟩:=h;rw[aA]at h;obtain⟨N,h⟩:=h;obtain rfl:=bN.1 N;obtain⟨⟨l,M⟩,O,rfl⟩:=ye.1 h;rcases hM.at_ms hbx J with ⟨B,a0,cap,rfl,hn,hon,H,_,U,_⟩|⟨rfl,rfl,rfl,hz,_,H⟩|⟨B,oo,rfl,ho,rfl,hon,_,H⟩
   ·obtain⟨m,hr,Y,V,Z,h4⟩:=cH (P:=P) (isSlice:=true) (cap:=cap) O hn hl hh hm w;exact⟨rfl,rfl,_,a9 W hs hr,Bw H U hon Y V Z h4⟩
   ·obtain⟨m,hr,Y,V,Z,h4⟩:=cH (P:=P) (isSlice:=true) (cap:=0) O (by simp) hl hh hm w;refine⟨rfl,rfl,_,a9 W hs (a:=none) hr,?_⟩;obtain rfl:l=0:=by omega
    obtain rfl:M=0:=by omega
    obtain rfl:m=0:=by omega
    exact .msNil b g _ H rfl
   ·obtain⟨m,hr,Y,V,Z,h4⟩:=cH (P:=P) (isSlice:=true) (cap:=0) O (by simp) hl hh hm w;refine⟨rfl,rfl,_,a9 W hs hr,?_⟩;obtain rfl:l=0:=by omega
    obtain rfl:M=0:=by omega
    obtain rfl:m=0:=by omega
    exact .msZ b g o B oo _ H rfl ho hon
  ·rename_i b g;rw[bind_some]at h;obtain⟨bx,hbx,h⟩:=h;rw[aA]at h;obtain⟨N,h⟩:=h;obtain rfl:=bN.1 N;obtain⟨⟨l,M⟩,O,rfl⟩:=ye.1 h;rcases hM.at_msw hbx J with ⟨B,a0,cap,rfl,hn,H,_,U,_⟩|⟨rfl,hz,_,_,H⟩
   ·obtain⟨m,hr,Y,V,Z,h4⟩:=cH (P:=P) (isSlice:=true) (cap:=cap) O hn hl hh hm w;have:=Bw (o:=0) (n:=bx.row.len) H (by simpa using U) (by simp) Y V Z h4;exact⟨rfl,rfl,_,a9 W hs hr,by simpa using this⟩
   ·rw[hz]at O;obtain⟨m,hr,Y,V,Z,h4⟩:=cH (P:=P) (isSlice:=true) (cap:=0) O (by simp) hl hh hm w;refine⟨rfl,rfl,_,a9 W hs (a:=none) hr,?_⟩;obtain rfl:l=0:=by omega
    obtain rfl:M=0:=by omega
    obtain rfl:m=0:=by omega
    exact .msNil b g _ H rfl
  ·obtain⟨⟨l,M⟩,O,rfl⟩:=ye.1 h;obtain rfl:=J.lit_inv;obtain⟨m,hr,Y,V,Z,h4⟩:=cH (P:=P) (isSlice:=true) (cap:=0) O (by simp) hl hh hm w;refine⟨rfl,rfl,_,a9 W hs (a:=none) hr,?_⟩;obtain rfl:l=0:=by omega
   obtain rfl:M=0:=by omega
   obtain rfl:m=0:=by omega
   exact .lit _ rfl
  ·simp at h
 ·rename_i n et W;rw[bind_some]at h;obtain⟨s,hs,h⟩:=h;split at h
  ·rename_i b g c;rw[aA]at h;obtain⟨N,h⟩:=h;obtain rfl:=bN.1 N;rw[bind_some]at h;obtain⟨bx,hbx,h⟩:=h;obtain⟨B,a0,rfl,H,ha0,hmine,hB,hfz,hrow,hpr⟩:=hM.at_ptr hbx J;obtain⟨gen,frz,row⟩:=bx;split at h
   ·rename_i cs hrw;simp only at hrw;subst hrw;obtain rfl:=ha0 rfl;rw[aA]at h;obtain⟨hle,h⟩:=h;have hle:=cO.1 hle;obtain⟨⟨l,M⟩,O,rfl⟩:=ye.1 h;obtain⟨m,hr,Y,V,Z,h4⟩:=cH (P:=P) (isSlice:=false) (cap:=n) O (ya1 _) hl hh hm w;have U:Dl w B ((c+n)*1):=λj hj=>by
     obtain⟨v,hv,_⟩:=hrow.2 j (cs[j]'(by omega)) (yf _);rw[hv];rfl
    have K:(aZ.cells 1 cs).len=cs.length:=rfl;have:=Bw (o:=c) (n:=n) H (by rw[yc1];exact U) (by rw[K];exact hle) Y V Z h4;refine⟨rfl,rfl,_,Ft W hs hr,?_⟩;simp only[aZ.e,yt3,yr3,yc1,dC,yl]at this⊢
    split
    ·rename_i e;simpa[e]using this
    ·rename_i e;simpa[e]using this
   ·simp at h
  ·simp at h
 ·simp at h
end
end Go.Ab
end
section
namespace Go.Ab
variable [cF]
section
variable {P:Program}
theorem LY{G:Gh}{w:World}{mem:aK}{t ty:TypeId}{x:AV}{n:Nat×List Nat}{cv:Value}(hM:aH G w mem)(h:lenOf P t mem x=some n)(J:VR G w x cv):
  (Builtin.len_ #[t] ty #[cv]).run P w= .ok (.int .i64 (n.1:Int)) w:=by
 unfold lenOf at h;split at h
 ·rename_i K;split at h
  ·obtain rfl:=ya h;obtain rfl:=J.lit_inv;simp[Builtin.len_,run_underlying K,goInt]
  ·simp at h
 ·rename_i et K;have H: ∀(a:Option Addr) (l c:Nat),(Builtin.len_ #[t] ty #[.slice a l c]).run P w= .ok (.int .i64 (l:Int)) w:=by
   intro a l c;simp[Builtin.len_,run_underlying K,goInt]
  split at h
  ·obtain rfl:=ya h;cases J with|imm _ _ _ N=>cases N<;>exact H _ _ _
  ·obtain rfl:=ya h;cases J with|imm _ _ _ N=>cases N<;>exact H _ _ _
  ·obtain rfl:=ya h;cases J<;>exact H _ _ _
  ·obtain⟨bx,M,rfl⟩:=ye.1 h;rcases hM.at_msw M J with ⟨B,a0,cap,rfl,_⟩|⟨rfl,O,_⟩
   ·exact H _ _ _
   ·rw[H];simp[O]
  ·obtain rfl:=ya h;obtain rfl:=J.lit_inv;exact H _ _ _
  ·simp at h
 ·simp at h
theorem wW{G:Gh}{w:World}{f:Int->Int->Int}{k:IntKind}{op:Value->Value->Sem Value}(K: ∀a b,(op (.int k a) (.int k b))=pure (.int k (f a b))):
  ∀{xs:List AV} {vs:List Value} {a r:Int},mQ f k xs a=some r->(xs.length=vs.length/\∀(j:Nat) (y:AV),xs[j]?=some y->VR G w y (vs.getD j undef))->
   (vs.foldlM op (.int k a)).run P w= .ok (.int k r) w:=by
 intro xs
 induction xs with
 |nil=>
  intro vs a r h H;simp[mQ]at h;subst h;have:=yu H.1.symm;subst this;rfl
 |cons x xs U=>
  intro vs a r h H;cases vs with
  |nil=>simp at H
  |cons v vs=>
   have O:=H.2 0 x rfl;simp only[List.getD_cons_zero]at O;have M:xs.length=vs.length/\∀(j:Nat) (y:AV),xs[j]?=some y->VR G w y (vs.getD j undef):=⟨by simpa using H.1,λj y V=>by simpa using H.2 (j+1) y (by simpa using V)⟩
   unfold mQ at h;split at h
   ·simp_all
   ·rename_i k' b r' a' J;simp only[List.cons.injEq]at J;obtain⟨rfl,rfl⟩:=J;rw[aA]at h;obtain⟨N,h⟩:=h;rw[kS]at N;subst N;obtain rfl:=O.lit_inv;rw[List.foldlM_cons,K];simp only[Sem.run_bind,Sem.run_pure,Result.andThen_ok];exact U h M
   ·simp at h
theorem eL(C:Array Value)(j:Nat):C.toList.getD j undef=C.getD j undef:=by
 simp[ym,yp]
theorem Ac{s:TypeId}{f:Nat}{q:Nat×Nat×TypeId}(h:mN P s f=some q):
  ∃fs x,P.underlying s=some (.struct fs)/\fs[f]?=some x/\x.offset=q.1/\jR P x.type=some q.2.1/\x.type=q.2.2/\1≤q.2.1:=by
 unfold mN at h;split at h
 ·rename_i fs H;rw[bind_some]at h;obtain⟨x,J,h⟩:=h;rw[bind_some]at h;obtain⟨n,hn,h⟩:=h;rw[aA]at h;obtain⟨K,h⟩:=h;obtain rfl:=ya h;exact⟨fs,x,H,J,rfl,hn,rfl,cO.1 K⟩
 ·simp at h
theorem E4{s:TypeId}{f:Nat}{q:Nat×Nat×TypeId}(h:mN P s f=some q)(B o:Nat)(w:World):
  (Instr.fieldAt s (.pointer (some ⟨B,o,none⟩)) f).run P w= .ok (.pointer (some ⟨B,o+q.1,none⟩)) w:=by
 obtain⟨fs,x,J,M,K,hn,ht,h1⟩:=Ac h;have H: ¬(q.2.1=0):=by omega
 simp only[Instr.fieldAt,Sem.run_bind,run_underlying J,Result.andThen_ok,M,Instr.sureAddr,Sem.run_pure,fieldPlace,eR hn,H,if_false,dC,K]
theorem MV{t:TypeId}{n:Nat}{ag:Bool}(H:isAgg? P t=some ag)(hn:jR P t=some n){cs:Array Value}{o:Nat}(w:World)(J:ag=true\/o<cs.size):
  (part t cs o).run P w= .ok (if ag=true then .agg (cs.extract o (o+n))else cs.getD o undef) w:=by
 cases ag with
 |true=>simp only[part,Sem.run_bind,zV H,Result.andThen_ok,if_true,eR hn,Sem.run_pure]
 |false=>
  have K:o<cs.size:=by rcases J with h|h;cases h;exact h
  simp only[part,Sem.run_bind,zV H,Result.andThen_ok,yr2,if_false,yb2 K,Sem.run_pure,yp,Option.getD_some]
theorem JO{G:Gh}{w:World}{s:TypeId}{f:Nat}{q:Nat×Nat×TypeId}{cs:List AV}{cv:Value}{ag:Bool}{v:AV}(h:mN P s f=some q)(N:isAgg? P q.2.2=some ag)
  (hx:VR G w (.agg cs) cv) (J:(bif ag then guardB (Nat.ble (q.1+q.2.1) cs.length) (some (AV.agg ((cs.drop q.1).take q.2.1)))else cs[q.1]?)=some v):
  ∃M,(Instr.field s cv f).run P w= .ok M w/\VR G w v M:=by
 obtain⟨fs,x,Y,O,Z,hn,ht,h1⟩:=Ac h;obtain⟨cvs,rfl,W,hc⟩:=hx.agg_inv;rw[<-ht]at N;have K: ∀(H:ag=true\/q.1<cvs.size),(Instr.field s (.agg cvs) f).run P w= .ok (if ag=true then .agg (cvs.extract q.1 (q.1+q.2.1))else cvs.getD q.1 undef) w:=by
  intro H;have:=MV (P:=P) N hn (cs:=cvs) (o:=q.1) w H;simp only[Instr.field,Sem.run_bind,run_underlying Y,Result.andThen_ok,O,asAgg,Sem.run_pure,Z,this]
 cases ag with
 |true=>
  simp only[yg]at J;rw[aA]at J;obtain⟨H,J⟩:=J;have H:=cO.1 H;obtain rfl:=ya J;refine⟨_,K (.inl rfl),?_⟩;rw[if_pos rfl];refine .agg _ _ (by simp;omega) λj y U=>?_;have hj:j<q.2.1:=by have:=(yd.1 U).1;simp at this;omega
  rw[yp1 hj,ye1]at U;have:=hc _ y U;have V:q.1+j<cvs.size:=by omega
  simp only[yp]at this⊢
  rw[Array.getElem?_extract];rw[if_pos (by omega)];exact this
 |false=>
  simp only[yh]at J;have V:=(yd.1 J).1;exact⟨_,K (.inr (by omega)),by simpa using hc _ v J⟩
theorem IK{ρ:Operand->Option AV}: ∀{xs:List Operand} {vs:List AV},oZ ρ xs=some vs->vs.length=xs.length/\∀(j:Nat) (y:AV),vs[j]?=some y->∃x,xs[j]?=some x/\ρ x=some y
 | [],vs,h=>by simp[oZ]at h;subst h;exact⟨rfl,λj y H=>by simp at H⟩
 |x::r,vs,h=>by
  simp only[oZ]at h;rw[bind_some]at h;obtain⟨v,N,h⟩:=h;obtain⟨M,J,rfl⟩:=ye.1 h;obtain⟨K,O⟩:=IK J;refine⟨by simp[K],λj y H=>?_⟩;cases j with
  |zero=>simp at H;subst H;exact⟨x,rfl,N⟩
  |succ j=>simpa using O j y (by simpa using H)
theorem BK{G:Gh}{w:World}{ρ:Operand->Option AV}{a:Act}(U:Rw G w ρ a){xs:Array Operand}{vs:List AV}(h:oZ ρ xs.toList=some vs):pY G w vs (xs.map a.eval):=by
 obtain⟨J,O⟩:=IK h;refine⟨by simpa using J,λj y K=>?_⟩;obtain⟨x,M,N⟩:=O j y K;have H:xs[j]?=some x:=by simpa using M
 have hj:=(yb3.1 H).1;have:=U x y N;simp only[yp,Array.getElem?_map,H,yl,Option.getD_some];exact this
theorem Dz{ρ:Operand->Option AV}: ∀{xs:List (Nat×Operand)} {vs:List (Nat×AV)},lT ρ xs=some vs->
  vs.length=xs.length/\∀(j:Nat) (q:Nat×AV),vs[j]?=some q->∃x,xs[j]?=some (q.1,x)/\ρ x=some q.2
 | [],vs,h=>by simp[lT]at h;subst h;exact⟨rfl,λj y N=>by simp at N⟩
 |(i,x)::r,vs,h=>by
  simp only[lT]at h;rw[bind_some]at h;obtain⟨v,O,h⟩:=h;obtain⟨M,H,rfl⟩:=ye.1 h;obtain⟨K,U⟩:=Dz H;refine⟨by simp[K],λj q J=>?_⟩;cases j with
  |zero=>simp at J;subst J;exact⟨x,rfl,O⟩
  |succ j=>simpa using U j q (by simpa using J)
def iW(G:Gh)(w:World)(as:List AV)(vs:List Value):Prop:=as.length=vs.length/\∀(j:Nat) (y:AV),as[j]?=some y->VR G w y (vs.getD j undef)
def Uc(G:Gh)(w:World)(ps:List (Nat×AV))(qs:List (Nat×Value)):Prop:=ps.length=qs.length/\∀(j:Nat) (p:Nat×AV),ps[j]?=some p->∃v,qs[j]?=some (p.1,v)/\VR G w p.2 v
theorem A2{G:Gh}{w:World}{ρ:Operand->Option AV}{a:Act}(U:Rw G w ρ a){xs:Array (Nat×Operand)}{vs:List (Nat×AV)}(h:lT ρ xs.toList=some vs):
  Uc G w vs (xs.map λ(i,x)=>(i,a.eval x)).toList:=by
 obtain⟨J,O⟩:=Dz h;refine⟨by simpa using J,λj q N=>?_⟩;obtain⟨x,M,K⟩:=O j q N;refine⟨a.eval x,?_,U x _ K⟩;have H:xs[j]?=some (q.1,x):=by simpa using M
 simp[H]
theorem iW.set{G:Gh}{w:World}{as:List AV}{vs:List Value}(h:iW G w as vs){i:Nat}{a:AV}{v:Value}(K:VR G w a v):iW G w (as.set i a) (vs.set i v):=by
 refine⟨by simp[h.1],λj y H=>?_⟩;by_cases e:j=i
 ·subst e;have J:j<as.length:=by have:=(yd.1 H).1;simpa using this
  rw[yt J]at H;simp at H;subst H;rw[ym,yt (by rw[<-h.1];exact J)];exact K
 ·rw[yo (λx=>e x.symm)]at H;rw[ym,yo (λx=>e x.symm),<-ym];exact h.2 j y H
def bF:List Value->Nat->List Value->List Value
 |cs,_,[]=>cs
 |cs,i,v::r=>bF (cs.set i v) (i+1) r
theorem iW.setCells{G:Gh}{w:World}: ∀{xs:List AV} {J:List Value} {as:List AV} {vs:List Value} {i:Nat},iW G w as vs->iW G w xs J->iW G w (setCells as i xs) (bF vs i J)
 | [],J,as,vs,i,h,H=>by
  have:=yu H.1.symm;subst this;exact h
 |x::xs,[],as,vs,i,h,H=>by simp[iW]at H
 |x::xs,y::J,as,vs,i,h,H=>by
  have K:=H.2 0 x rfl;simp only[List.getD_cons_zero]at K;simp only[Go.Ab.setCells,bF];exact iW.setCells (h.set K) ⟨by simpa using H.1,λj z M=>by simpa using H.2 (j+1) z (by simpa using M)⟩
theorem mU{as:List AV}: ∀{xs:List AV} {i:Nat} {as:List AV},(setCells as i xs).length=as.length
 | [],i,as=>rfl
 |x::xs,i,as=>by rw[Go.Ab.setCells,mU (as:=as)];simp
theorem iR: ∀{xs:List Value} {i:Nat} {as:List Value},(bF as i xs).length=as.length
 | [],i,as=>rfl
 |x::xs,i,as=>by rw[bF,iR];simp
theorem CV: ∀(vs:List Value) (off n:Nat) (cs:Array Value),((vs.zipIdx n).foldl (λcs (c,j)=>cs.setIfInBounds (off+j) c) cs).toList=bF cs.toList (off+n) vs
 | [],off,n,cs=>rfl
 |v::vs,off,n,cs=>by
  simp only[List.zipIdx_cons,List.foldl_cons,bF];rw[CV vs off (n+1)];simp[ye2]
theorem iW.one{G:Gh}{w:World}{a:AV}{v:Value}(h:VR G w a v):iW G w [a] [v]:=
 ⟨rfl,λj y H=>by cases j with|zero=>simp at H;subst H;exact h|succ j=>simp at H⟩
theorem VR.cells{G:Gh}{w:World}{a:AV}{v:Value}(h:VR G w a v):iW G w a.cells v.cells.toList:=by
 cases h with
 |agg cs cvs H h=>exact⟨by simpa[AV.cells,Value.cells]using H,λj y Z=>by simp only[Value.cells];rw[eL];exact h j y (by simpa[AV.cells]using Z)⟩
 |lit v U=>
  have:v.cells= #[v]:=by cases v<;>first|rfl|simp[mW]at U
  rw[this];exact iW.one (.lit v U)
 |imm β p v h hs=>
  have:v.cells= #[v]:=by cases h<;>first|rfl|simp[PV.isSl]at hs
  rw[this];exact iW.one (.imm β p v h hs)
 |unkB b=>exact iW.one (.unkB b)
 |dead v O N=>
  have:v.cells= #[v]:=by cases v<;>first|rfl|simp[mW]at N
  rw[this];exact iW.one (.dead v O N)
 |ptr b g i c L B K J=>exact iW.one (.ptr b g i c L B K J)
 |ms b g o n cap L B K J hn M hf=>exact iW.one (.ms b g o n cap L B K J hn M hf)
 |msNil b g L K J=>exact iW.one (.msNil b g L K J)
 |msZ b g o B oo L K J Y M=>exact iW.one (.msZ b g o B oo L K J Y M)
 |msw b g cap L B K J hn hf=>exact iW.one (.msw b g cap L B K J hn hf)
 |mswNil b g L K J hn=>exact iW.one (.mswNil b g L K J hn)
 |el β p c B o cv h hr=>exact iW.one (.el β p c B o cv h hr)
 |fn f V ca W cv O N hf hc=>exact iW.one (.fn f V ca W cv O N hf hc)
 |tup cs cvs H h=>exact iW.one (.tup cs cvs H h)
theorem AX{G:Gh}{w:World}{K:Nat->Option (Nat×Nat)}: ∀{ps:List (Nat×AV)} {qs:List (Nat×Value)} {cs J:List AV} {cvs:Array Value},Er K cs ps=some J->iW G w cs cvs.toList->Uc G w ps qs->
  ∃H,Instr.fill K cvs qs=some H/\iW G w J H.toList
 | [],qs,cs,J,cvs,h,hc,M=>by
  have:=yu M.1.symm;subst this;simp[Er]at h;subst h;exact⟨cvs,rfl,hc⟩
 |(i,v)::r,[],cs,J,cvs,h,hc,M=>by simp[Uc]at M
 |(i,v)::r,(i',u)::qs,cs,J,cvs,h,hc,M=>by
  obtain⟨u',Z,hv⟩:=M.2 0 (i,v) rfl;simp only[ye3,Option.some.injEq,Prod.mk.injEq]at Z;obtain⟨rfl,rfl⟩:=Z;simp only[Er]at h;rw[bind_some]at h;obtain⟨q,hq,h⟩:=h;rw[aA]at h;obtain⟨N,h⟩:=h;simp only[yc]at N;have h1:=bN.1 N.1;have h2:=cO.1 N.2;have U:=hv.cells;have W:u.cells.size=q.2:=by rw[<-h1];simpa using U.1.symm
  have hcz:cs.length=cvs.size:=by simpa using hc.1
  have O:(u.cells.zipIdx.foldl (λcs (c,j)=>cs.setIfInBounds (q.1+j) c) cvs).toList=bF cvs.toList q.1 u.cells.toList:=by
   have:=CV u.cells.toList q.1 0 cvs;rw[yw1]at this;rw[<-this,<-Array.foldl_toList];simp
  obtain⟨H,hf,Y⟩:=AX (cvs:=u.cells.zipIdx.foldl (λcs (c,j)=>cs.setIfInBounds (q.1+j) c) cvs) h (by rw[O];exact hc.setCells U)
   ⟨by simpa using M.1,λj p V=>by simpa using M.2 (j+1) p (by simpa using V)⟩
  refine⟨H,?_,Y⟩;simp only[Instr.fill,hq];rw[if_neg (by simp[W];omega)];exact hf
theorem H0: ∀{fs:List Field} {ps:List (Nat×Nat)},places? P fs=some ps->∀w:World,(fs.mapM λf=>(do pure (f.offset,<-sizeOf f.type):Sem (Nat×Nat))).run P w= .ok ps w
 | [],ps,h,w=>by simp[places?]at h;subst h;rfl
 |f::r,ps,h,w=>by
  simp only[places?]at h;rw[bind_some]at h;obtain⟨n,hn,h⟩:=h;obtain⟨K,H,rfl⟩:=ye.1 h;have J:=H0 H w;simp only[List.mapM_cons,Sem.run_bind,eR hn,Result.andThen_ok,Sem.run_pure,J]
theorem Pu{G:Gh}{w:World}: ∀{vs:List Value} {as:List AV},Jw vs=some as->iW G w as vs
 | [],as,h=>by simp[Jw]at h;subst h;exact⟨rfl,λj y H=>by simp at H⟩
 |v::r,as,h=>by
  simp only[Jw]at h;rw[aA]at h;obtain⟨N,h⟩:=h;obtain⟨M,J,rfl⟩:=ye.1 h;have K:=Pu (G:=G) (w:=w) J
  exact⟨by simp[K.1],λj y H=>by
   cases j with
   |zero=>simp at H;subst H;exact .lit v N
   |succ j=>simpa using K.2 j y (by simpa using H)⟩
theorem mR{G:Gh}{w:World}{v:Value}{a:AV}(h:Aj v=some a):VR G w a v:=by
 unfold Aj at h;split at h
 ·rename_i cs;obtain⟨as,J,rfl⟩:=ye.1 h;have:=Pu (G:=G) (w:=w) J;exact .agg as cs (by simpa using this.1) (λj y K=>by rw[<-eL];exact this.2 j y K)
 ·rename_i H;obtain rfl:=ya h;exact .lit v (by cases v<;>first|rfl|exact absurd rfl (H _))
theorem lQ{t:TypeId}{z:AV}(h:zero? P t=some z): ∃i v,P.info? t=some i/\i.zero=some v/\Aj v=some z:=by
 unfold zero? at h;rw[bind_some]at h;obtain⟨v,H,h⟩:=h;rw[bind_some]at H;obtain⟨i,J,H⟩:=H;exact⟨i,v,J,H,h⟩
theorem LV{t:TypeId}{z:AV}(h:zero? P t=some z)(G:Gh)(w:World): ∃v,(zeroValue t).run P w= .ok v w/\VR G w z v/\(∀H,(zeroValue t).run P H= .ok v H)/\Aj v=some z:=by
 obtain⟨i,v,K,J,M⟩:=lQ h;exact⟨v,by simp[zeroValue,typeInfo,K,J],mR M,λH=>by simp[zeroValue,typeInfo,K,J],M⟩
theorem Jn{G:Gh}{w:World}{t:TypeId}{ps:List (Nat×AV)}{qs:Array (Nat×Value)}{v:AV}(h:C1 P t ps=some v)(W:Uc G w ps qs.toList):
  ∃cv,(Instr.build t qs).run P w= .ok cv w/\VR G w v cv:=by
 unfold C1 at h;rw[bind_some]at h;obtain⟨z,Z,h⟩:=h;obtain⟨zv,J,K,_⟩:=LV Z G w;split at h
 ·rename_i fs M;rw[bind_some]at h;obtain⟨Y,N,h⟩:=h;obtain⟨cs,H,rfl⟩:=ye.1 h;obtain⟨cvs,hf,hc⟩:=AX H K.cells W;refine⟨.agg cvs,?_,.agg cs cvs (by simpa using hc.1) (λj y O=>by rw[<-eL];exact hc.2 j y O)⟩;have U:(fs.mapM λf=>(do pure (f.offset,<-sizeOf f.type):Sem (Nat×Nat))).run P w= .ok Y.toArray w:=by
   rw[Array.mapM_eq_mapM_toList,Sem.run_map,H0 N w];rfl
  have V:Instr.fill (λi=>Y.toArray[i]?) zv.cells qs.toList=some cvs:=by rw[<-hf];congr 1;funext i;simp
  simp only[Instr.build,Sem.run_bind,J,Result.andThen_ok,run_underlying M,U,V,Sem.run_pure]
 ·rename_i n e M;rw[bind_some]at h;obtain⟨s,hs,h⟩:=h;obtain⟨cs,H,rfl⟩:=ye.1 h;obtain⟨cvs,hf,hc⟩:=AX H K.cells W;refine⟨.agg cvs,?_,.agg cs cvs (by simpa using hc.1) (λj y O=>by rw[<-eL];exact hc.2 j y O)⟩;simp only[Instr.build,Sem.run_bind,J,Result.andThen_ok,run_underlying M,eR hs,hf,Sem.run_pure]
 ·simp at h
end
end Go.Ab
end
