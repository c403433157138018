import Derived.Test.YtjjjbgicidhpfaaDoorLib10
set_option linter.unusedVariables false
set_option linter.unusedSectionVars false
set_option linter.unusedSimpArgs false
namespace Go.Ab
variable [b3]
section
variable (P:Program)
noncomputable def Ty.depth(T:Ty):Nat:=Ty.rec (λ_=>1) 1 1 (λ_ _ d=>d+1) (λ_ _ a b=>max a b) T
noncomputable def aZ:Ty->List LK->Bool
 | .int k,ls=>(match ls with| [.int k']=>fY k k'|_=>false)
 | .bool,ls=>(match ls with| [.bool]=>true|_=>false)
 | .str,ls=>(match ls with| [.str]=>true|_=>false)
 | .sl ag T,ls=>(match ls with
  | [.ints k]=>(match ag,T with|false,.int k'=>fY k k'|_,_=>false)
  | [.sl t e]=>Nat.beq e T.size&&!(fZ ag T)&&(match isAgg? P t with|some a=>dY a ag|none=>false)&&(ag||Nat.beq T.size 1)&&(match leaves? P 8 t with|some ls'=>aZ T ls'|none=>false)
  |_=>false)
 | .cons a b,ls=>(match ls with
  |l::r=>Nat.beq a.size 1&&aZ a [l]&&aZ b r
  | []=>false)
noncomputable def Bt:List (Nat×Nat×TypeId)->List Field->Bool
 | [],[]=>true
 |q::r,f::fs=>Nat.beq q.1 f.offset&&Nat.beq q.2.2 f.type&&(match gW P f.type with|some n=>Nat.beq n q.2.1|none=>false)&&Bt r fs
 |_,_=>false
noncomputable def m9(t:TypeId)(ti:TI):Bool:=
 match ti.tk,P.underlying t with
 | .int k,some (.int k')=>fY k k'
 | .bool,some .bool=>true
 | .str,some .string=>true
 | .sl et,some (.slice e)=>Nat.beq et e
 | .st fs,some (.struct l)=>Bt P fs l.toList
 | .ptr,some (.pointer _)=>true
 | .arr n e,some (.array n' e')=>Nat.beq n n'&&Nat.beq e e'
 | .other,some (.int _)=>false
 | .other,some _=>true
 |_,_=>false
def Ii:Value->Value->Bool
 | .int k n,.int k' n'=>fY k k'&&decide (n=n')
 | .bool a,.bool b=>dY a b
 | .string a,.string b=>(match a.data.toList,b.data.toList with| [],[]=>true|_,_=>false)
 | .slice none 0 0,.slice none 0 0=>true
 | .pointer none,.pointer none=>true
 |_,_=>false
def q8:List Value->List Value->Bool
 | [],[]=>true
 |a::r,b::s=>Ii a b&&q8 r s
 |_,_=>false
noncomputable def G6(ag:Bool)(zs:List Value)(z:Option Value):Bool:=
 match z with
 |some (.agg cs)=>ag&&q8 cs.toList zs
 |some v=>!ag&&q8 [v] zs
 |none=>false
noncomputable def CQ(t:TypeId)(T:Ty):Bool:=
 match P.underlying t with
 |some (.int k)=>(match T with| .int k'=>fY k k'|_=>false)
 |some .bool=>(match T with| .bool=>true|_=>false)
 |some .string=>(match T with| .str=>true|_=>false)
 |_=>false
noncomputable def Cd:List Field->Nat->List Ty->Bool
 | [],_,[]=>true
 |f::r,n,T::Ts=>(f.name != "_")&&Nat.beq f.offset n&&CQ P f.type T&&Cd r (n+1) Ts
 |_,_,_=>false
noncomputable def K7(t:TypeId)(ti:TI):Bool:=
 (match gW P t with|some n=>Nat.beq n ti.n|none=>false)&&(match iQ P t with|some n=>Nat.beq n ti.bytes|none=>false)&&(match isAgg? P t with|some a=>dY a ti.ag|none=>false)&&m9 P t ti
  &&G6 ti.ag ti.zero ((P.info? t).bind (·.zero))
  &&(match ti.ty with|some T=>(match leaves? P 8 t with|some ls=>aZ P T ls|none=>false)&&Nat.beq T.size ti.n&&(ti.ag||Nat.beq T.size 1)&&Nat.ble T.depth 6|none=>true)
  &&(!ti.eq||(match P.underlying t,ti.ty with|some (.struct fs),some T=>(!(P.stoodInHeld t))&&(!(P.eqGuardType P.depth t))&&Cd P fs.toList 0 (cM T)|_,_=>false))
def bL(tab:TypeId->Option TI):Prop:= ∀t ti,tab t=some ti->K7 P t ti=true
theorem bL.of_list{l:List (Nat×TI)}(h:(l.all λq=>K7 P q.1 q.2)=true):bL P λt=>cP t l:=by
 intro t ti ht
 induction l with
 |nil=>cases ht
 |cons q l H=>
  obtain⟨m,x⟩:=q;simp only[ye3,yb]at h;simp only[cP]at ht;cases hm:Nat.beq m t with
  |true=>
   rw[hm]at ht;simp only[yl]at ht;obtain rfl:=ya ht;obtain rfl:=nb.1 hm;exact h.1
  |false=>rw[hm]at ht;simp only[yj]at ht;exact H h.2 ht
structure bT (t:TypeId) (ti:TI):Prop where
 n:gW P t=some ti.n
 bytes:iQ P t=some ti.bytes
 ag:isAgg? P t=some ti.ag
 tk:m9 P t ti=true
 zero:G6 ti.ag ti.zero ((P.info? t).bind (·.zero))=true
 ty: ∀T,ti.ty=some T->(∃ls,leaves? P 8 t=some ls/\aZ P T ls=true)/\T.size=ti.n/\(ti.ag=false->T.size=1)/\T.depth≤6
 eq:ti.eq=true->∃fs T,P.underlying t=some (.struct fs)/\ti.ty=some T/\(!(P.stoodInHeld t))=true/\(!(P.eqGuardType P.depth t))=true/\Cd P fs.toList 0 (cM T)=true
variable {P}
theorem bT.of{t:TypeId}{U:TI}(h:K7 P t U=true):bT P t U:=by
 simp only[K7,yb]at h;obtain⟨⟨⟨⟨⟨⟨K,N⟩,M⟩,Y⟩,Z⟩,I⟩,H⟩:=h;refine⟨?_,?_,?_,Y,Z,?_,?_⟩
 ·split at K
  ·rename_i n hn;rw[hn,nb.1 K]
  ·cases K
 ·split at N
  ·rename_i n hn;rw[hn,nb.1 N]
  ·cases N
 ·split at M
  ·rename_i n hn;rw[hn,HS.1 M]
  ·cases M
 ·intro T hT;rw[hT]at I;simp only[yb]at I;obtain⟨⟨⟨a,b⟩,c⟩,d⟩:=I;refine⟨?_,nb.1 b,λJ=>?_,nl.1 d⟩
  ·split at a
   ·rename_i ls O;exact⟨ls,O,a⟩
   ·cases a
  ·rw[J]at c;exact nb.1 (by simpa using c)
 ·intro V;rw[V]at H;simp only[Bool.not_true,Bool.false_or]at H;split at H
  ·rename_i fs T W hT;simp only[yb]at H;exact⟨fs,T,W,hT,H.1.1,H.1.2,H.2⟩
  ·cases H
theorem Nj{a b:Value}(h:Ii a b=true):a=b:=by
 unfold Ii at h;split at h
 ·simp only[yb,decide_eq_true_eq]at h;rw[qK.1 h.1,h.2]
 ·rw[HS.1 h]
 ·rename_i x y;split at h
  ·rename_i I H;obtain⟨⟨x⟩⟩:=x;obtain⟨⟨y⟩⟩:=y;simp only at I H;rw[I,H]
  ·cases h
 ·rfl
 ·rfl
 ·cases h
theorem AH: ∀{a b:List Value},q8 a b=true->a=b
 | [],[],_=>rfl
 |a::r,b::s,h=>by
  simp only[q8,yb]at h;rw[Nj h.1,AH h.2]
 | [],_::_,h=>by cases h
 |_::_,[],h=>by cases h
theorem y8{a b:Value}(h:Ii a b=true):kI b=true:=by
 unfold Ii at h;split at h<;>first|rfl|cases h
theorem By: ∀{a b:List Value},q8 a b=true->G5 b=some (b.map .lit)
 | [],[],_=>rfl
 |a::r,b::s,h=>by
  simp only[q8,yb]at h;simp only[G5,dS,y8 h.1,By h.2,true_and];rfl
 | [],_::_,h=>by cases h
 |_::_,[],h=>by cases h
theorem JE(H:List Value):KV.downs (H.map .lit)=H.map .lit:=by induction H<;>simp_all[KV.downs,KV.down]
theorem Mm{v:Value}(h:kI v=true):vS v=some (.lit v):=by cases v<;>first|rfl|cases h
theorem bT.zero_eq{t:TypeId}{I:TI}(h:bT P t I):zero? P t=some (d7 I).down/\(I.ag=true->d7 I= .agg (I.zero.map .lit))/\(I.ag=false->∃v,I.zero= [v]/\d7 I= .lit v):=by
 have H:=h.zero;unfold G6 at H;split at H
 ·rename_i cs W;simp only[yb]at H;have N:=AH H.2;refine⟨?_,(λ_=>by simp[d7,H.1]),(λK=>by rw[H.1]at K;cases K)⟩;have U:=By H.2;simp only[zero?,W,ye,vS,N,U,d7,H.1,yl,KV.down,JE,yh]
 ·rename_i v Y V;simp only[yb,yq]at H;obtain⟨M,H⟩:=H;have N:=AH H;have O:kI v=true:=by
   rw[<-N]at H;simp only[q8,yd3]at H;exact y8 H
  have J:d7 I= .lit v:=by unfold d7;rw[M,<-N];rfl
  refine⟨?_,(λK=>by rw[M]at K;cases K),λ_=>⟨v,N.symm,J⟩⟩;rw[J];simp only[zero?,V,ye,Mm O,KV.down]
 ·cases H
end
end Go.Ab
