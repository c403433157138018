import Derived.Test.YtjjjbgicidhpfaaDoorLib11
set_option linter.unusedVariables false
set_option linter.unusedSectionVars false
set_option linter.unusedSimpArgs false
namespace Go.Ab
variable [cS]
section
variable (P:Program)
noncomputable def Ty.depth(T:Ty):Nat:=Ty.rec (λ_=>1) 1 1 (λ_ _ d=>d+1) (λ_ _ a b=>max a b) T
noncomputable def bE:Ty->List LK->Bool
 | .int k,ls=>(match ls with| [.int k']=>jS k k'|_=>false)
 | .bool,ls=>(match ls with| [.bool]=>true|_=>false)
 | .str,ls=>(match ls with| [.str]=>true|_=>false)
 | .sl ag T,ls=>(match ls with
  | [.ints k]=>(match ag,T with|false,.int k'=>jS k k'|_,_=>false)
  | [.sl t e]=>Nat.beq e T.size&&!(jW ag T)&&(match isAgg? P t with|some a=>fJ a ag|none=>false)&&(ag||Nat.beq T.size 1)&&(match leaves? P 8 t with|some ls'=>bE T ls'|none=>false)
  |_=>false)
 | .cons a b,ls=>(match ls with
  |l::r=>Nat.beq a.size 1&&bE a [l]&&bE b r
  | []=>false)
noncomputable def Gm:List (Nat×Nat×TypeId)->List Field->Bool
 | [],[]=>true
 |q::r,f::fs=>Nat.beq q.1 f.offset&&Nat.beq q.2.2 f.type&&(match k8 P f.type with|some n=>Nat.beq n q.2.1|none=>false)&&Gm r fs
 |_,_=>false
noncomputable def qU(t:TypeId)(ti:TI):Bool:=
 match ti.tk,P.underlying t with
 | .int k,some (.int k')=>jS k k'
 | .bool,some .bool=>true
 | .str,some .string=>true
 | .sl et,some (.slice e)=>Nat.beq et e
 | .st fs,some (.struct l)=>Gm P fs l.toList
 | .ptr,some (.pointer _)=>true
 | .arr n e,some (.array n' e')=>Nat.beq n n'&&Nat.beq e e'
 | .other,some (.int _)=>false
 | .other,some _=>true
 |_,_=>false
def Ol:Value->Value->Bool
 | .int k n,.int k' n'=>jS k k'&&decide (n=n')
 | .bool a,.bool b=>fJ a b
 | .string a,.string b=>(match a.data.toList,b.data.toList with| [],[]=>true|_,_=>false)
 | .slice none 0 0,.slice none 0 0=>true
 | .pointer none,.pointer none=>true
 |_,_=>false
def y8:List Value->List Value->Bool
 | [],[]=>true
 |a::r,b::s=>Ol a b&&y8 r s
 |_,_=>false
noncomputable def Ma(ag:Bool)(zs:List Value)(z:Option Value):Bool:=
 match z with
 |some (.agg cs)=>ag&&y8 cs.toList zs
 |some v=>!ag&&y8 [v] zs
 |none=>false
noncomputable def Jf(t:TypeId)(T:Ty):Bool:=
 match P.underlying t with
 |some (.int k)=>(match T with| .int k'=>jS k k'|_=>false)
 |some .bool=>(match T with| .bool=>true|_=>false)
 |some .string=>(match T with| .str=>true|_=>false)
 |_=>false
noncomputable def Gv:List Field->Nat->List Ty->Bool
 | [],_,[]=>true
 |f::r,n,T::Ts=>(f.name != "_")&&Nat.beq f.offset n&&Jf P f.type T&&Gv r (n+1) Ts
 |_,_,_=>false
noncomputable def Q8(t:TypeId)(ti:TI):Bool:=
 (match k8 P t with|some n=>Nat.beq n ti.n|none=>false)&&(match l8 P t with|some n=>Nat.beq n ti.bytes|none=>false)&&(match isAgg? P t with|some a=>fJ a ti.ag|none=>false)&&qU P t ti
  &&Ma ti.ag ti.zero ((P.info? t).bind (·.zero))
  &&(match ti.ty with|some T=>(match leaves? P 8 t with|some ls=>bE P T ls|none=>false)&&Nat.beq T.size ti.n&&(ti.ag||Nat.beq T.size 1)&&Nat.ble T.depth 6|none=>true)
  &&(!ti.eq||(match P.underlying t,ti.ty with|some (.struct fs),some T=>(!(P.stoodInHeld t))&&(!(P.eqGuardType P.depth t))&&Gv P fs.toList 0 (dO T)|_,_=>false))
def b9(tab:TypeId->Option TI):Prop:= ∀t ti,tab t=some ti->Q8 P t ti=true
theorem b9.of_list{l:List (Nat×TI)}(h:(l.all λq=>Q8 P q.1 q.2)=true):b9 P λt=>dS t l:=by
 intro t ti ht
 induction l with
 |nil=>cases ht
 |cons q l H=>
  obtain⟨m,x⟩:=q;simp only[yn3,yc]at h;simp only[dS]at ht;cases hm:Nat.beq m t with
  |true=>
   rw[hm]at ht;simp only[yh]at ht;obtain rfl:=yb ht;obtain rfl:=nb.1 hm;exact h.1
  |false=>rw[hm]at ht;simp only[yg]at ht;exact H h.2 ht
structure cH (t:TypeId) (ti:TI):Prop where
 n:k8 P t=some ti.n
 bytes:l8 P t=some ti.bytes
 ag:isAgg? P t=some ti.ag
 tk:qU P t ti=true
 zero:Ma ti.ag ti.zero ((P.info? t).bind (·.zero))=true
 ty: ∀T,ti.ty=some T->(∃ls,leaves? P 8 t=some ls/\bE P T ls=true)/\T.size=ti.n/\(ti.ag=false->T.size=1)/\T.depth≤6
 eq:ti.eq=true->∃fs T,P.underlying t=some (.struct fs)/\ti.ty=some T/\(!(P.stoodInHeld t))=true/\(!(P.eqGuardType P.depth t))=true/\Gv P fs.toList 0 (dO T)=true
variable {P}
theorem cH.of{t:TypeId}{V:TI}(h:Q8 P t V=true):cH P t V:=by
 simp only[Q8,yc]at h;obtain⟨⟨⟨⟨⟨⟨O,N⟩,J⟩,Y⟩,W⟩,M⟩,H⟩:=h;refine⟨?_,?_,?_,Y,W,?_,?_⟩
 ·split at O
  ·rename_i n hn;rw[hn,nb.1 O]
  ·cases O
 ·split at N
  ·rename_i n hn;rw[hn,nb.1 N]
  ·cases N
 ·split at J
  ·rename_i n hn;rw[hn,MP.1 J]
  ·cases J
 ·intro T hT;rw[hT]at M;simp only[yc]at M;obtain⟨⟨⟨a,b⟩,c⟩,d⟩:=M;refine⟨?_,nb.1 b,λK=>?_,nl.1 d⟩
  ·split at a
   ·rename_i ls U;exact⟨ls,U,a⟩
   ·cases a
  ·rw[K]at c;exact nb.1 (by simpa using c)
 ·intro he;rw[he]at H;simp only[yf1,yb4]at H;split at H
  ·rename_i fs T Z hT;simp only[yc]at H;exact⟨fs,T,Z,hT,H.1.1,H.1.2,H.2⟩
  ·cases H
theorem Uc{a b:Value}(h:Ol a b=true):a=b:=by
 unfold Ol at h;split at h
 ·simp only[yc,decide_eq_true_eq]at h;rw[yR.1 h.1,h.2]
 ·rw[MP.1 h]
 ·rename_i x y;split at h
  ·rename_i J H;obtain⟨⟨x⟩⟩:=x;obtain⟨⟨y⟩⟩:=y;simp only at J H;rw[J,H]
  ·cases h
 ·rfl
 ·rfl
 ·cases h
theorem Ey: ∀{a b:List Value},y8 a b=true->a=b
 | [],[],_=>rfl
 |a::r,b::s,h=>by
  simp only[y8,yc]at h;rw[Uc h.1,Ey h.2]
 | [],_::_,h=>by cases h
 |_::_,[],h=>by cases h
theorem CE{a b:Value}(h:Ol a b=true):oQ b=true:=by
 unfold Ol at h;split at h<;>first|rfl|cases h
theorem Gd: ∀{a b:List Value},y8 a b=true->Mm b=some (b.map .lit)
 | [],[],_=>rfl
 |a::r,b::s,h=>by
  simp only[y8,yc]at h;simp only[Mm,e9,CE h.1,Gd h.2,true_and];rfl
 | [],_::_,h=>by cases h
 |_::_,[],h=>by cases h
theorem PW(H:List Value):KV.downs (H.map .lit)=H.map .lit:=by induction H<;>simp_all[KV.downs,KV.down]
theorem RD{v:Value}(h:oQ v=true):BM v=some (.lit v):=by cases v<;>first|rfl|cases h
theorem cH.zero_eq{t:TypeId}{J:TI}(h:cH P t J):zero? P t=some (fW J).down/\(J.ag=true->fW J= .agg (J.zero.map .lit))/\(J.ag=false->∃v,J.zero= [v]/\fW J= .lit v):=by
 have H:=h.zero;unfold Ma at H;split at H
 ·rename_i cs hc;simp only[yc]at H;have N:=Ey H.2;refine⟨?_,(λ_=>by simp[fW,H.1]),(λM=>by rw[H.1]at M;cases M)⟩;have Y:=Gd H.2;simp only[zero?,hc,ya,BM,N,Y,fW,H.1,yh,KV.down,PW,yl]
 ·rename_i v W V;simp only[yc,yx]at H;obtain⟨K,H⟩:=H;have N:=Ey H;have U:oQ v=true:=by
   rw[<-N]at H;simp only[y8,ya4]at H;exact CE H
  have O:fW J= .lit v:=by unfold fW;rw[K,<-N];rfl
  refine⟨?_,(λM=>by rw[K]at M;cases M),λ_=>⟨v,N.symm,O⟩⟩;rw[O];simp only[zero?,V,ya,RD U,KV.down]
 ·cases H
end
end Go.Ab
