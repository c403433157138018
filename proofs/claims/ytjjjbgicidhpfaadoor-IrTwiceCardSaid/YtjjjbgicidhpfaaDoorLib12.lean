import Derived.Test.YtjjjbgicidhpfaaDoorLib11
set_option linter.unusedVariables false
set_option linter.unusedSectionVars false
set_option linter.unusedSimpArgs false
namespace Go.Ab
variable [cF]
section
variable (P:Program)
noncomputable def Ty.depth(T:Ty):Nat:=Ty.rec (λ_=>1) 1 1 (λ_ _ d=>d+1) (λ_ _ a b=>max a b) T
noncomputable def a7:Ty->List LK->Bool
 | .int k,ls=>(match ls with| [.int k']=>iK k k'|_=>false)
 | .bool,ls=>(match ls with| [.bool]=>true|_=>false)
 | .str,ls=>(match ls with| [.str]=>true|_=>false)
 | .sl ag T,ls=>(match ls with
  | [.ints k]=>(match ag,T with|false,.int k'=>iK k k'|_,_=>false)
  | [.sl t e]=>Nat.beq e T.size&&!(iQ ag T)&&(match isAgg? P t with|some a=>eP a ag|none=>false)&&(ag||Nat.beq T.size 1)&&(match leaves? P 8 t with|some ls'=>a7 T ls'|none=>false)
  |_=>false)
 | .cons a b,ls=>(match ls with
  |l::r=>Nat.beq a.size 1&&a7 a [l]&&a7 b r
  | []=>false)
noncomputable def E7:List (Nat×Nat×TypeId)->List Field->Bool
 | [],[]=>true
 |q::r,f::fs=>Nat.beq q.1 f.offset&&Nat.beq q.2.2 f.type&&(match jR P f.type with|some n=>Nat.beq n q.2.1|none=>false)&&E7 r fs
 |_,_=>false
noncomputable def pL(t:TypeId)(ti:TI):Bool:=
 match ti.tk,P.underlying t with
 | .int k,some (.int k')=>iK k k'
 | .bool,some .bool=>true
 | .str,some .string=>true
 | .sl et,some (.slice e)=>Nat.beq et e
 | .st fs,some (.struct l)=>E7 P fs l.toList
 | .ptr,some (.pointer _)=>true
 | .arr n e,some (.array n' e')=>Nat.beq n n'&&Nat.beq e e'
 | .other,some (.int _)=>false
 | .other,some _=>true
 |_,_=>false
def MQ:Value->Value->Bool
 | .int k n,.int k' n'=>iK k k'&&decide (n=n')
 | .bool a,.bool b=>eP a b
 | .string a,.string b=>(match a.data.toList,b.data.toList with| [],[]=>true|_,_=>false)
 | .slice none 0 0,.slice none 0 0=>true
 | .pointer none,.pointer none=>true
 |_,_=>false
def v7:List Value->List Value->Bool
 | [],[]=>true
 |a::r,b::s=>MQ a b&&v7 r s
 |_,_=>false
noncomputable def JA(ag:Bool)(zs:List Value)(z:Option Value):Bool:=
 match z with
 |some (.agg cs)=>ag&&v7 cs.toList zs
 |some v=>!ag&&v7 [v] zs
 |none=>false
noncomputable def HP(t:TypeId)(T:Ty):Bool:=
 match P.underlying t with
 |some (.int k)=>(match T with| .int k'=>iK k k'|_=>false)
 |some .bool=>(match T with| .bool=>true|_=>false)
 |some .string=>(match T with| .str=>true|_=>false)
 |_=>false
noncomputable def En:List Field->Nat->List Ty->Bool
 | [],_,[]=>true
 |f::r,n,T::Ts=>(f.name != "_")&&Nat.beq f.offset n&&HP P f.type T&&En r (n+1) Ts
 |_,_,_=>false
noncomputable def O5(t:TypeId)(ti:TI):Bool:=
 (match jR P t with|some n=>Nat.beq n ti.n|none=>false)&&(match kT P t with|some n=>Nat.beq n ti.bytes|none=>false)&&(match isAgg? P t with|some a=>eP a ti.ag|none=>false)&&pL P t ti
  &&JA ti.ag ti.zero ((P.info? t).bind (·.zero))
  &&(match ti.ty with|some T=>(match leaves? P 8 t with|some ls=>a7 P T ls|none=>false)&&Nat.beq T.size ti.n&&(ti.ag||Nat.beq T.size 1)&&Nat.ble T.depth 6|none=>true)
  &&(!ti.eq||(match P.underlying t,ti.ty with|some (.struct fs),some T=>(!(P.stoodInHeld t))&&(!(P.eqGuardType P.depth t))&&En P fs.toList 0 (c8 T)|_,_=>false))
def bT(tab:TypeId->Option TI):Prop:= ∀t ti,tab t=some ti->O5 P t ti=true
theorem bT.of_list{l:List (Nat×TI)}(h:(l.all λq=>O5 P q.1 q.2)=true):bT P λt=>dB t l:=by
 intro t ti ht
 induction l with
 |nil=>cases ht
 |cons q l H=>
  obtain⟨m,x⟩:=q;simp only[ym3,yc]at h;simp only[dB]at ht;cases hm:Nat.beq m t with
  |true=>
   rw[hm]at ht;simp only[yg]at ht;obtain rfl:=ya ht;obtain rfl:=nb.1 hm;exact h.1
  |false=>rw[hm]at ht;simp only[yh]at ht;exact H h.2 ht
structure b5 (t:TypeId) (ti:TI):Prop where
 n:jR P t=some ti.n
 bytes:kT P t=some ti.bytes
 ag:isAgg? P t=some ti.ag
 tk:pL P t ti=true
 zero:JA ti.ag ti.zero ((P.info? t).bind (·.zero))=true
 ty: ∀T,ti.ty=some T->(∃ls,leaves? P 8 t=some ls/\a7 P T ls=true)/\T.size=ti.n/\(ti.ag=false->T.size=1)/\T.depth≤6
 eq:ti.eq=true->∃fs T,P.underlying t=some (.struct fs)/\ti.ty=some T/\(!(P.stoodInHeld t))=true/\(!(P.eqGuardType P.depth t))=true/\En P fs.toList 0 (c8 T)=true
variable {P}
theorem b5.of{t:TypeId}{V:TI}(h:O5 P t V=true):b5 P t V:=by
 simp only[O5,yc]at h;obtain⟨⟨⟨⟨⟨⟨J,K⟩,O⟩,Z⟩,h5⟩,N⟩,H⟩:=h;refine⟨?_,?_,?_,Z,h5,?_,?_⟩
 ·split at J
  ·rename_i n hn;rw[hn,nb.1 J]
  ·cases J
 ·split at K
  ·rename_i n hn;rw[hn,nb.1 K]
  ·cases K
 ·split at O
  ·rename_i n hn;rw[hn,KO.1 O]
  ·cases O
 ·intro T hT;rw[hT]at N;simp only[yc]at N;obtain⟨⟨⟨a,b⟩,c⟩,d⟩:=N;refine⟨?_,nb.1 b,λU=>?_,nl.1 d⟩
  ·split at a
   ·rename_i ls M;exact⟨ls,M,a⟩
   ·cases a
  ·rw[U]at c;exact nb.1 (by simpa using c)
 ·intro Y;rw[Y]at H;simp only[yf2,yg4]at H;split at H
  ·rename_i fs T W hT;simp only[yc]at H;exact⟨fs,T,W,hT,H.1.1,H.1.2,H.2⟩
  ·cases H
theorem Rv{a b:Value}(h:MQ a b=true):a=b:=by
 unfold MQ at h;split at h
 ·simp only[yc,decide_eq_true_eq]at h;rw[vO.1 h.1,h.2]
 ·rw[KO.1 h]
 ·rename_i x y;split at h
  ·rename_i J H;obtain⟨⟨x⟩⟩:=x;obtain⟨⟨y⟩⟩:=y;simp only at J H;rw[J,H]
  ·cases h
 ·rfl
 ·rfl
 ·cases h
theorem CN: ∀{a b:List Value},v7 a b=true->a=b
 | [],[],_=>rfl
 |a::r,b::s,h=>by
  simp only[v7,yc]at h;rw[Rv h.1,CN h.2]
 | [],_::_,h=>by cases h
 |_::_,[],h=>by cases h
theorem Bo{a b:Value}(h:MQ a b=true):mW b=true:=by
 unfold MQ at h;split at h<;>first|rfl|cases h
theorem E2: ∀{a b:List Value},v7 a b=true->Jw b=some (b.map .lit)
 | [],[],_=>rfl
 |a::r,b::s,h=>by
  simp only[v7,yc]at h;simp only[Jw,eK,Bo h.1,E2 h.2,true_and];rfl
 | [],_::_,h=>by cases h
 |_::_,[],h=>by cases h
theorem M8(H:List Value):KV.downs (H.map .lit)=H.map .lit:=by induction H<;>simp_all[KV.downs,KV.down]
theorem PO{v:Value}(h:mW v=true):Aj v=some (.lit v):=by cases v<;>first|rfl|cases h
theorem b5.zero_eq{t:TypeId}{J:TI}(h:b5 P t J):zero? P t=some (e8 J).down/\(J.ag=true->e8 J= .agg (J.zero.map .lit))/\(J.ag=false->∃v,J.zero= [v]/\e8 J= .lit v):=by
 have H:=h.zero;unfold JA at H;split at H
 ·rename_i cs hc;simp only[yc]at H;have O:=CN H.2;refine⟨?_,(λ_=>by simp[e8,H.1]),(λN=>by rw[H.1]at N;cases N)⟩;have W:=E2 H.2;simp only[zero?,hc,yb,Aj,O,W,e8,H.1,yg,KV.down,M8,yl]
 ·rename_i v V Y;simp only[yc,yw]at H;obtain⟨K,H⟩:=H;have O:=CN H;have U:mW v=true:=by
   rw[<-O]at H;simp only[v7,yz3]at H;exact Bo H
  have M:e8 J= .lit v:=by unfold e8;rw[K,<-O];rfl
  refine⟨?_,(λN=>by rw[K]at N;cases N),λ_=>⟨v,O.symm,M⟩⟩;rw[M];simp only[zero?,Y,yb,PO U,KV.down]
 ·cases H
end
end Go.Ab
