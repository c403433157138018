import Derived.Test.YtjjjbgicidhpfaaDoorLib32
import Derived.OpenShut
import Derived.ShutString
import Derived.ChangeOld
import Derived.Below
import Derived.Carry
set_option linter.unusedVariables false
set_option linter.unusedSectionVars false
set_option linter.unusedSimpArgs false
namespace Go.Ab
variable [b3]
open Go.RowKit Go.ChangeShapes Go.WideShapes
variable {P:Program} {H:Type} {enc:TypeId×Value->H} {w:World}
noncomputable section
def Pd:Sh->Option Ty
 | .int k=>some (.int k)
 | .bool=>some .bool
 | .str=>some .str
 | .sl β ag T=>bif β then some (.sl ag T)else none
 |_=>none
def AK(P:Program)(t:TypeId)(s:Sh):Bool:=match Pd s with
 |some T=>A2 P (LO P 8) t T
 |none=>false
def HY(P:Program):Nat->List (Nat×TypeId)->Sh->Bool
 |_,[],s=>(match s with| .nil=>true|_=>false)
 |n,q::r,s=>(match s with| .cons a b=>Nat.beq q.1 n&&AK P q.2 a&&HY P (n+1) r b|_=>false)
def Nl(P:Program)(t:TypeId)(s:Sh):Bool:=match P.underlying t with
 |some (.struct _)=>(match s with
  | .agg l=>(match IU P 8 t with|some ls=>Nat.beq ls.length (P.cellsOf t)&&HY P 0 ls l|none=>false)
  |_=>false)
 |some (.array _ _)=>false
 |_=>AK P t s
def Fe(P:Program):List TypeId->Sh->Bool
 | [],s=>(match s with| .nil=>true|_=>false)
 |t::ts,s=>(match s with| .cons a b=>Nl P t a&&Fe P ts b|_=>false)
def Ar:(s:Sh)->s.den->Prop
 | .int k,x=>(Lit.int k x).wf=true
 | .str,x=>ByteArray.size x≤reachBytes
 | .sl _ ag T,xs=>OF (.sl ag T) xs
 | .agg l,p=>Ar l p
 | .cons a b,p=>Ar a (P2.fst a.dflt a.un b.un p)/\Ar b (P2.snd b.dflt a.un b.un p)
 |_,_=>True
def PG(w:World)(s:Sh)(v:Value):Prop:= ∃d:s.den,Ar s d/\∃av,kO s [av] d/\VR (GS w) w av v
theorem I7{s:Sh}{T:Ty}{v:Value}(hs:Pd s=some T)(h:E7 w T v):PG w s v:=by
 obtain⟨x,J,p,I,ho,hr⟩:=h;cases s with
 |int k=>
  obtain rfl:=ya hs;have I:=(yx I).1;subst I;cases hr;exact⟨x,J,_,rfl,.lit _ rfl⟩
 |bool=>
  obtain rfl:=ya hs;have I:=(yx I).1;subst I;cases hr;exact⟨x,trivial,_,rfl,.lit _ rfl⟩
 |str=>
  obtain rfl:=ya hs;have I:=(yx I).1;subst I;cases hr;exact⟨x,J,_,rfl,.lit _ rfl⟩
 |sl β ag K=>
  cases β with
  |false=>cases hs
  |true=>
   obtain rfl:=ya hs;have I:p=c8 ag K x:=((yx I).1).symm;subst I;exact⟨x,J,.imm true (c8 ag K x),.inl ⟨true,λ_=>rfl,rfl⟩,.imm true _ v hr (pT ag K x)⟩
 |_=>cases hs
theorem Bo{t:TypeId}{s:Sh}(h:AK P t s=true):sY P t:=by
 unfold AK at h;split at h
 ·exact Bu h
 ·cases h
theorem BG{t:TypeId}{s:Sh}{fuel:Nat}{v:Value}{y:DataW H×List MemPlace}(h:AK P t s=true)(hr:qF enc P w fuel t [v]=some y)(M:Lw P t y.1):PG w s v:=by
 unfold AK at h;split at h
 ·rename_i T hT;exact I7 hT (FV (enc:=enc) (rd:=LO P 8) (fuel:=fuel) (λm t T cs x _ K J I=>L8 m 8 t T cs x K J I) t T v h ⟨fuel,y,ya1 _,hr,M⟩)
 ·cases h
theorem Dw{cs:List Value}: ∀{ls:List (Nat×TypeId)} {n:Nat} {s:Sh},HY P n ls s=true->(∀q∈ls,sY P q.2->∃m v y,cs[q.1]?=some v/\qF enc P w m q.2 [v]=some y/\Lw P q.2 y.1)->
  ∃d:s.den,Ar s d/\∃avs:List AV,kO s avs d/\avs.length=ls.length/\∀(j:Nat) (a:AV),avs[j]?=some a->∃v,cs[n+j]?=some v/\VR (GS w) w a v
 | [],n,s,h,hr=>by
  unfold HY at h;split at h
  ·exact⟨(),trivial,[],rfl,rfl,λj a K=>by simp at K⟩
  ·cases h
 |q::r,n,s,h,hr=>by
  unfold HY at h;split at h
  ·rename_i s a b;simp only[yb]at h;obtain⟨m,v,y,Z,hy,N⟩:=hr q (ym ..) (Bo h.1.2);obtain⟨d,hf,W,O,Y⟩:=BG h.1.2 hy N;obtain⟨I,V,avs,J,M,U⟩:=Dw h.2 λq hq=>hr q (yg _ hq);refine⟨P2.mk _ _ d I,⟨?_,?_⟩,W::avs,⟨W,avs,rfl,?_,?_⟩,by simp[M],λj a K=>?_⟩
   ·exact Eq.mpr (congrArg (Ar a) (fst_mk d I)) hf
   ·exact Eq.mpr (congrArg (Ar b) (snd_mk d I)) V
   ·exact Eq.mpr (congrArg (kO a [W]) (fst_mk d I)) O
   ·exact Eq.mpr (congrArg (kO b avs) (snd_mk d I)) J
   ·cases j with
    |zero=>
     simp at K;subst K;rw[nb.1 h.1.1]at Z;exact⟨v,Z,Y⟩
    |succ j=>
     obtain⟨v',h1,h2⟩:=U j a (by simpa using K);exact⟨v',by rw[show n+(j+1)=n+1+j by omega];exact h1,h2⟩
  ·cases h
theorem Ik{t:TypeId}{v:Value}{r:Reach}{base:Nat}(I:sY P t)(h:Value.okWide P w r base t v):v.cells.toList= [v]:=by
 rcases I with ⟨k,ht⟩|ht|ht|⟨e,ht⟩<;>simp only[Value.okWide,ht,Cell.okWide]at h<;>cases v<;>simp_all[Cell.ok,Value.cells]
theorem Kx{t:TypeId}{s:Sh}{v:Value}{r:Reach}{base:Nat}{d:DataW H}{ps:List MemPlace}(h:Nl P t s=true)(Z:Value.okWide P w r base t v)(hr:DataW.Trod enc P w 0 (λ_=>true) true t v d ps)(I:Lw P t d):PG w s v:=by
 obtain⟨fuel,hr⟩:=hr;unfold Nl at h;split at h
 ·rename_i fs ht;split at h
  ·rename_i s l;split at h
   ·rename_i ls Y;simp only[yb]at h;obtain⟨cs,rfl,N⟩:=okWide_struct ht Z;have M:qF enc P w fuel t cs.toList=some (d,ps):=hr;obtain⟨d,hf,avs,O,J,V⟩:=Dw (enc:=enc) (w:=w) (cs:=cs.toList) h.2 λq hq W=>by
     obtain⟨m,v,y,_,K,U,h3⟩:=Bm 8 Y M I q hq W;exact⟨m,v,y,K,U,h3⟩
    refine⟨d,hf,.agg avs,⟨avs,rfl,O⟩,.agg avs cs (by rw[J,nb.1 h.1,N]) λj y hy=>?_⟩;obtain⟨v,K,U⟩:=V j y hy;rw[yy]at K;rw[yk,<-yh1,K];exact U
   ·cases h
  ·cases h
 ·cases h
 ·have hl:=Bo h;rw[Ik hl Z]at hr;exact BG h hr I
theorem B5{r:Reach}{base:Nat}: ∀{ts:List TypeId} {s:Sh} {vs:List Value} {N:List (DataW H)} {ps:List MemPlace},Fe P ts s=true->(∀(j:Nat) (t:TypeId) (v:Value),ts[j]?=some t->vs[j]?=some v->Value.okWide P w r base t v)->
  DataW.TrodAll enc P w 0 (λ_=>true) true ts vs N ps->(∀n∈DataW.weightsEach P ts N,n≤reachBytes)->∃d:s.den,Ar s d/\∃as:List AV,kO s as d/\nH (GS w) w as vs.toArray/\as.length=ts.length
 | [],s,vs,N,ps,h,hw,hr,I=>by
  unfold Fe at h;split at h
  ·obtain⟨rfl,rfl,rfl⟩:=trodAll_nil hr;exact⟨(),trivial,[],rfl,nH.nil,rfl⟩
  ·cases h
 |t::ts,s,vs,N,ps,h,hw,hr,I=>by
  unfold Fe at h;split at h
  ·rename_i s a b;rw[yb]at h;obtain⟨v,vs',d,ds',p,q,rfl,rfl,rfl,O,V⟩:=trodAll_cons hr;obtain⟨d,hf,Z,U,hv⟩:=Kx h.1 (hw 0 t v rfl rfl) O (λn hn=>I n (by simp only[DataW.weightsEach,yn1];exact .inl hn));obtain⟨J,Y,as,K,W,M⟩:=B5 h.2 (λj t v O V=>hw (j+1) t v (by simpa using O) (by simpa using V)) V (λn hn=>I n (by simp only[DataW.weightsEach,yn1];exact .inr hn));refine⟨P2.mk _ _ d J,⟨?_,?_⟩,Z::as,⟨Z,as,rfl,?_,?_⟩,nH.cons hv W,by simp[M]⟩
   ·exact Eq.mpr (congrArg (Ar a) (fst_mk d J)) hf
   ·exact Eq.mpr (congrArg (Ar b) (snd_mk d J)) Y
   ·exact Eq.mpr (congrArg (kO a [Z]) (fst_mk d J)) U
   ·exact Eq.mpr (congrArg (kO b as) (snd_mk d J)) K
  ·cases h
theorem vX(N:laidOutB P=true){O:World}(M:Below w.heap.size w O): ∀{ts:List TypeId} {vs:List Value} {I:List (DataW H)} {ps:List MemPlace},(ts.all λt=>P.readableRec t&&Nat.blt t P.types.size)=true->
  DataW.TrodAll enc P w 0 (λ_=>true) true ts vs I ps->DataW.TrodAll enc P O 0 (λb=>decide (b<w.heap.size)) true ts vs I ps
 | [],vs,I,ps,ht,hr=>by
  obtain⟨rfl,rfl,rfl⟩:=trodAll_nil hr;exact trodAll_mk0
 |t::ts,vs,I,ps,ht,hr=>by
  rw[ye3,yb,yb]at ht;obtain⟨v,U,d,W,p,q,rfl,rfl,rfl,K,V⟩:=trodAll_cons hr;have J: ∀x∈p,x.block<w.heap.size:=by obtain⟨m,hm⟩:=K;exact DataW.trod_lt m _ _ _ hm
  exact trodAll_cons_mk (Below.trod N ht.1.1 (Nat.blt_eq ▸ ht.1.2) K M J) (vX N M ht.2 V)
theorem BF{K:Nat->Bool}{I:Bool}{base:Nat}: ∀{ts:List TypeId} {vs:List Value} {J:List (DataW H)} {ps:List MemPlace},DataW.TrodAll enc P w base K I ts vs J ps->vs.length=ts.length/\J.length=ts.length
 | [],vs,J,ps,hr=>by
  obtain⟨rfl,rfl,rfl⟩:=trodAll_nil hr;exact⟨rfl,rfl⟩
 |t::ts,vs,J,ps,hr=>by
  obtain⟨v,M,d,N,p,q,rfl,rfl,rfl,h1,O⟩:=trodAll_cons hr;have:=BF O;exact⟨by simp[this.1],by simp[this.2]⟩
def La(P:Program)(fn:Func)(sh:Sh):Bool:=
 laidOutB P&&Fe P fn.params.toList sh&&(fn.params.toList.all λt=>P.readableRec t&&Nat.blt t P.types.size)&&
 (match fn.resultTypes.toList with| [t]=>(match P.underlying t with|some .bool=>true|_=>false)|_=>false)
theorem qG(I:List TypeId)(J:List (DataW H)): ∀{ts:List TypeId} {K:List (DataW H)},K.length=ts.length->∀n∈DataW.weightsEach P ts K,n∈DataW.weightsEach P (ts++I) (K++J)
 | [],[],_,n,hn=>by simp[DataW.weightsEach]at hn
 |t::ts,d::K,h,n,hn=>by
  simp only[yt2,DataW.weightsEach,yn1]at hn⊢
  exact hn.imp id (qG I J (by simpa using h) n)
 | [],_::_,h,_,_=>by simp at h
 |_::_,[],h,_,_=>by simp at h
theorem yR{f:FuncId}{fn:Func}{s:ChangeSpec}{sh:Sh}(N:La P fn sh=true)(K:s.vars= [])
  (V: ∀O:List (DataW H),O.length=fn.params.size->s.fn H O={results:= [.lit (.bool true)],args:=O})
  (hrun: ∀d:sh.den,Ar sh d->∀(W:World) (as:List AV) (J:Array Value),p7 (GS W) W->kO sh as d->as.length=fn.params.size->nH (GS W) W as J->Calls P f J W λe W'=>e= .returned (.bool true)/\Below W.heap.size W W')
  {W:World} (hg:p7 (GS W) W) {base:Nat} {args:Array Value} {O gs:List (DataW H)} {U:List MemPlace}
  (hval: ∀(j:Nat) t v,fn.params[j]?=some t->args[j]?=some v->Value.okWide P W .any base t v) (hW:DataW.Whole enc P fn.params.toList s.vars false W args.toList O gs U)
  (hsz:(DataW.weightsEach P (fn.params.toList++s.plain.varTypes P) (O++gs)).all (· ≤reachBytes)=true):
  Calls P f args W λe W'=> ∃v,e= .returned v/\s.post enc P fn false true false false W args v W':=by
 unfold La at N;simp only[yb]at N;obtain⟨⟨⟨hl,Y⟩,hread⟩,I⟩:=N;have hW':=hW;obtain⟨p,q,hA,hV,rfl,hfz,hnd⟩:=hW;rw[K]at hV;obtain⟨rfl,rfl⟩:=trodVars_none hV;have M:=BF hA;have hwt: ∀n∈DataW.weightsEach P fn.params.toList O,n≤reachBytes:=by
  intro n hn;have:=yi2.1 hsz n (qG _ _ M.2 n hn);simpa using this
 obtain⟨d,hf,as,hle,hvr,hlen⟩:=B5 Y (λj t v h1 h2=>hval j t v (by rw[<-yh1];exact h1) (by rw[<-yh1];exact h2)) hA hwt;refine(hrun d hf W as args hg hle (by rw[hlen,yx1]) (by simpa using hvr)).mono λe W' he=>?_;obtain⟨rfl,hb⟩:=he;have hsp:=V O (by rw[M.2,yx1]);have Z: ∃t,fn.resultTypes= #[t]/\P.underlying t=some .bool:=by
  split at I
  ·rename_i t ht;split at I
   ·rename_i hu;exact⟨t,by cases hr:fn.resultTypes;simp_all,hu⟩
   ·cases I
  ·cases I
 obtain⟨t,Z,hu⟩:=Z;refine⟨_,rfl,O,[],p++ [],[],p,[],hW',?_,?_,?_,hb.frame _,λh=>by cases h⟩
 ·rw[yg1,hsp,Z];exact trodAll_mk1 (shut_bool hu _)
 ·rw[yg1,hsp];exact vX hl hb hread hA
 ·rw[yg1,hsp,K];rfl
end
end Go.Ab
