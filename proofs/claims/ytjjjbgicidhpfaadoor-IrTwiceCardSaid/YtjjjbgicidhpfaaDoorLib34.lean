import Derived.Test.YtjjjbgicidhpfaaDoorLib33
import Derived.OpenShut
import Derived.ShutString
import Derived.ChangeOld
import Derived.Below
import Derived.Carry
set_option linter.unusedVariables false
set_option linter.unusedSectionVars false
set_option linter.unusedSimpArgs false
namespace Go.Ab
variable [cF]
open Go.RowKit Go.ChangeShapes Go.WideShapes
variable {P:Program} {H:Type} {enc:TypeId×Value->H} {w:World}
noncomputable section
def UK:Sh->Option Ty
 | .int k=>some (.int k)
 | .bool=>some .bool
 | .str=>some .str
 | .sl β ag T=>bif β then some (.sl ag T)else none
 |_=>none
def CJ(P:Program)(t:TypeId)(s:Sh):Bool:=match UK s with
 |some T=>Di P (PK P 8) t T
 |none=>false
def MM(P:Program):Nat->List (Nat×TypeId)->Sh->Bool
 |_,[],s=>(match s with| .nil=>true|_=>false)
 |n,q::r,s=>(match s with| .cons a b=>Nat.beq q.1 n&&CJ P q.2 a&&MM P (n+1) r b|_=>false)
def RP(P:Program)(t:TypeId)(s:Sh):Bool:=match P.underlying t with
 |some (.struct _)=>(match s with
  | .agg l=>(match Mt P 8 t with|some ls=>Nat.beq ls.length (P.cellsOf t)&&MM P 0 ls l|none=>false)
  |_=>false)
 |some (.array _ _)=>false
 |_=>CJ P t s
def Gn(P:Program):List TypeId->Sh->Bool
 | [],s=>(match s with| .nil=>true|_=>false)
 |t::ts,s=>(match s with| .cons a b=>RP P t a&&Gn P ts b|_=>false)
def BN:(s:Sh)->s.den->Prop
 | .int k,x=>(Lit.int k x).wf=true
 | .str,x=>ByteArray.size x≤reachBytes
 | .sl _ ag T,xs=>H7 (.sl ag T) xs
 | .agg l,p=>BN l p
 | .cons a b,p=>BN a (P2.fst a.dflt a.un b.un p)/\BN b (P2.snd b.dflt a.un b.un p)
 |_,_=>True
def Vf(w:World)(s:Sh)(v:Value):Prop:= ∃d:s.den,BN s d/\∃av,m8 s [av] d/\VR (KN w) w av v
theorem LB{s:Sh}{T:Ty}{v:Value}(hs:UK s=some T)(h:Hp w T v):Vf w s v:=by
 obtain⟨x,hf,p,J,ho,hr⟩:=h;cases s with
 |int k=>
  obtain rfl:=ya hs;have J:=(yb1 J).1;subst J;cases hr;exact⟨x,hf,_,rfl,.lit _ rfl⟩
 |bool=>
  obtain rfl:=ya hs;have J:=(yb1 J).1;subst J;cases hr;exact⟨x,trivial,_,rfl,.lit _ rfl⟩
 |str=>
  obtain rfl:=ya hs;have J:=(yb1 J).1;subst J;cases hr;exact⟨x,hf,_,rfl,.lit _ rfl⟩
 |sl β ag K=>
  cases β with
  |false=>cases hs
  |true=>
   obtain rfl:=ya hs;have J:p=dS ag K x:=((yb1 J).1).symm;subst J;exact⟨x,hf,.imm true (dS ag K x),.inl ⟨true,λ_=>rfl,rfl⟩,.imm true _ v hr (s5 ag K x)⟩
 |_=>cases hs
theorem Fg{t:TypeId}{s:Sh}(h:CJ P t s=true):yZ P t:=by
 unfold CJ at h;split at h
 ·exact Dv h
 ·cases h
theorem Fb{t:TypeId}{s:Sh}{fuel:Nat}{v:Value}{y:DataW H×List MemPlace}(h:CJ P t s=true)(hr:vF enc P w fuel t [v]=some y)(N:Lw P t y.1):Vf w s v:=by
 unfold CJ at h;split at h
 ·rename_i T hT;exact LB hT (IA (enc:=enc) (rd:=PK P 8) (fuel:=fuel) (λm t T cs x _ M K J=>PL m 8 t T cs x M K J) t T v h ⟨fuel,y,ya1 _,hr,N⟩)
 ·cases h
theorem Gb{cs:List Value}: ∀{ls:List (Nat×TypeId)} {n:Nat} {s:Sh},MM P n ls s=true->(∀q∈ls,yZ P q.2->∃m v y,cs[q.1]?=some v/\vF enc P w m q.2 [v]=some y/\Lw P q.2 y.1)->
  ∃d:s.den,BN s d/\∃avs:List AV,m8 s avs d/\avs.length=ls.length/\∀(j:Nat) (a:AV),avs[j]?=some a->∃v,cs[n+j]?=some v/\VR (KN w) w a v
 | [],n,s,h,hr=>by
  unfold MM at h;split at h
  ·exact⟨(),trivial,[],rfl,rfl,λj a N=>by simp at N⟩
  ·cases h
 |q::r,n,s,h,hr=>by
  unfold MM at h;split at h
  ·rename_i s a b;simp only[yc]at h;obtain⟨m,v,y,hv,hy,O⟩:=hr q (yn ..) (Fg h.1.2);obtain⟨d,hf,U,Z,Y⟩:=Fb h.1.2 hy O;obtain⟨M,W,avs,K,J,V⟩:=Gb h.2 λq hq=>hr q (yj _ hq);refine⟨P2.mk _ _ d M,⟨?_,?_⟩,U::avs,⟨U,avs,rfl,?_,?_⟩,by simp[J],λj a N=>?_⟩
   ·exact Eq.mpr (congrArg (BN a) (fst_mk d M)) hf
   ·exact Eq.mpr (congrArg (BN b) (snd_mk d M)) W
   ·exact Eq.mpr (congrArg (m8 a [U]) (fst_mk d M)) Z
   ·exact Eq.mpr (congrArg (m8 b avs) (snd_mk d M)) K
   ·cases j with
    |zero=>
     simp at N;subst N;rw[nb.1 h.1.1]at hv;exact⟨v,hv,Y⟩
    |succ j=>
     obtain⟨v',h1,h2⟩:=V j a (by simpa using N);exact⟨v',by rw[show n+(j+1)=n+1+j by omega];exact h1,h2⟩
  ·cases h
theorem Mv{t:TypeId}{v:Value}{r:Reach}{base:Nat}(J:yZ P t)(h:Value.okWide P w r base t v):v.cells.toList= [v]:=by
 rcases J with ⟨k,ht⟩|ht|ht|⟨e,ht⟩<;>simp only[Value.okWide,ht,Cell.okWide]at h<;>cases v<;>simp_all[Cell.ok,Value.cells]
theorem Nj{t:TypeId}{s:Sh}{v:Value}{r:Reach}{base:Nat}{d:DataW H}{ps:List MemPlace}(h:RP P t s=true)(hw:Value.okWide P w r base t v)(hr:DataW.Trod enc P w 0 (λ_=>true) true t v d ps)(K:Lw P t d):Vf w s v:=by
 obtain⟨fuel,hr⟩:=hr;unfold RP at h;split at h
 ·rename_i fs ht;split at h
  ·rename_i s l;split at h
   ·rename_i ls U;simp only[yc]at h;obtain⟨cs,rfl,N⟩:=okWide_struct ht hw;have V:vF enc P w fuel t cs.toList=some (d,ps):=hr;obtain⟨d,hf,avs,Z,J,W⟩:=Gb (enc:=enc) (w:=w) (cs:=cs.toList) h.2 λq hq Y=>by
     obtain⟨m,v,y,_,M,O,h3⟩:=CD 8 U V K q hq Y;exact⟨m,v,y,M,O,h3⟩
    refine⟨d,hf,.agg avs,⟨avs,rfl,Z⟩,.agg avs cs (by rw[J,nb.1 h.1,N]) λj y hy=>?_⟩;obtain⟨v,M,O⟩:=W j y hy;rw[yc1]at M;rw[yp,<-yq1,M];exact O
   ·cases h
  ·cases h
 ·cases h
 ·have hl:=Fg h;rw[Mv hl hw]at hr;exact Fb h hr K
theorem Eg{r:Reach}{base:Nat}: ∀{ts:List TypeId} {s:Sh} {vs:List Value} {O:List (DataW H)} {ps:List MemPlace},Gn P ts s=true->(∀(j:Nat) (t:TypeId) (v:Value),ts[j]?=some t->vs[j]?=some v->Value.okWide P w r base t v)->
  DataW.TrodAll enc P w 0 (λ_=>true) true ts vs O ps->(∀n∈DataW.weightsEach P ts O,n≤reachBytes)->∃d:s.den,BN s d/\∃as:List AV,m8 s as d/\pY (KN w) w as vs.toArray/\as.length=ts.length
 | [],s,vs,O,ps,h,Z,hr,J=>by
  unfold Gn at h;split at h
  ·obtain⟨rfl,rfl,rfl⟩:=trodAll_nil hr;exact⟨(),trivial,[],rfl,pY.nil,rfl⟩
  ·cases h
 |t::ts,s,vs,O,ps,h,Z,hr,J=>by
  unfold Gn at h;split at h
  ·rename_i s a b;rw[yc]at h;obtain⟨v,vs',d,ds',p,q,rfl,rfl,rfl,h1,U⟩:=trodAll_cons hr;obtain⟨d,hf,V,hle,hv⟩:=Nj h.1 (Z 0 t v rfl rfl) h1 (λn hn=>J n (by simp only[DataW.weightsEach,yn1];exact .inl hn));obtain⟨N,Y,as,M,W,K⟩:=Eg h.2 (λj t v h1 U=>Z (j+1) t v (by simpa using h1) (by simpa using U)) U (λn hn=>J n (by simp only[DataW.weightsEach,yn1];exact .inr hn));refine⟨P2.mk _ _ d N,⟨?_,?_⟩,V::as,⟨V,as,rfl,?_,?_⟩,pY.cons hv W,by simp[K]⟩
   ·exact Eq.mpr (congrArg (BN a) (fst_mk d N)) hf
   ·exact Eq.mpr (congrArg (BN b) (snd_mk d N)) Y
   ·exact Eq.mpr (congrArg (m8 a [V]) (fst_mk d N)) hle
   ·exact Eq.mpr (congrArg (m8 b as) (snd_mk d N)) M
  ·cases h
theorem Ae(N:laidOutB P=true){O:World}(M:Below w.heap.size w O): ∀{ts:List TypeId} {vs:List Value} {J:List (DataW H)} {ps:List MemPlace},(ts.all λt=>P.readableRec t&&Nat.blt t P.types.size)=true->
  DataW.TrodAll enc P w 0 (λ_=>true) true ts vs J ps->DataW.TrodAll enc P O 0 (λb=>decide (b<w.heap.size)) true ts vs J ps
 | [],vs,J,ps,ht,hr=>by
  obtain⟨rfl,rfl,rfl⟩:=trodAll_nil hr;exact trodAll_mk0
 |t::ts,vs,J,ps,ht,hr=>by
  rw[ym3,yc,yc]at ht;obtain⟨v,Y,d,W,p,q,rfl,rfl,rfl,U,V⟩:=trodAll_cons hr;have K: ∀x∈p,x.block<w.heap.size:=by obtain⟨m,hm⟩:=U;exact DataW.trod_lt m _ _ _ hm
  exact trodAll_cons_mk (Below.trod N ht.1.1 (Nat.blt_eq ▸ ht.1.2) U M K) (Ae N M ht.2 V)
theorem Dx{M:Nat->Bool}{J:Bool}{base:Nat}: ∀{ts:List TypeId} {vs:List Value} {K:List (DataW H)} {ps:List MemPlace},DataW.TrodAll enc P w base M J ts vs K ps->vs.length=ts.length/\K.length=ts.length
 | [],vs,K,ps,hr=>by
  obtain⟨rfl,rfl,rfl⟩:=trodAll_nil hr;exact⟨rfl,rfl⟩
 |t::ts,vs,K,ps,hr=>by
  obtain⟨v,N,d,O,p,q,rfl,rfl,rfl,h1,U⟩:=trodAll_cons hr;have:=Dx U;exact⟨by simp[this.1],by simp[this.2]⟩
def RM(P:Program)(fn:Func)(sh:Sh):Bool:=
 laidOutB P&&Gn P fn.params.toList sh&&(fn.params.toList.all λt=>P.readableRec t&&Nat.blt t P.types.size)&&
 (match fn.resultTypes.toList with| [t]=>(match P.underlying t with|some .bool=>true|_=>false)|_=>false)
theorem vJ(J:List TypeId)(K:List (DataW H)): ∀{ts:List TypeId} {M:List (DataW H)},M.length=ts.length->∀n∈DataW.weightsEach P ts M,n∈DataW.weightsEach P (ts++J) (M++K)
 | [],[],_,n,hn=>by simp[DataW.weightsEach]at hn
 |t::ts,d::M,h,n,hn=>by
  simp only[yk3,DataW.weightsEach,yn1]at hn⊢
  exact hn.imp id (vJ J K (by simpa using h) n)
 | [],_::_,h,_,_=>by simp at h
 |_::_,[],h,_,_=>by simp at h
theorem Kj{f:FuncId}{fn:Func}{s:ChangeSpec}{sh:Sh}(M:RM P fn sh=true)(N:s.vars= [])
  (Z: ∀V:List (DataW H),V.length=fn.params.size->s.fn H V={results:= [.lit (.bool true)],args:=V})
  (hrun: ∀d:sh.den,BN sh d->∀(W:World) (as:List AV) (O:Array Value),yN (KN W) W->m8 sh as d->as.length=fn.params.size->pY (KN W) W as O->Calls P f O W λe W'=>e= .returned (.bool true)/\Below W.heap.size W W')
  {W:World} (hg:yN (KN W) W) {base:Nat} {args:Array Value} {V gs:List (DataW H)} {U:List MemPlace}
  (hval: ∀(j:Nat) t v,fn.params[j]?=some t->args[j]?=some v->Value.okWide P W .any base t v) (hW:DataW.Whole enc P fn.params.toList s.vars false W args.toList V gs U)
  (hsz:(DataW.weightsEach P (fn.params.toList++s.plain.varTypes P) (V++gs)).all (· ≤reachBytes)=true):
  Calls P f args W λe W'=> ∃v,e= .returned v/\s.post enc P fn false true false false W args v W':=by
 unfold RM at M;simp only[yc]at M;obtain⟨⟨⟨hl,Y⟩,hread⟩,J⟩:=M;have hW':=hW;obtain⟨p,q,hA,hV,rfl,hfz,hnd⟩:=hW;rw[N]at hV;obtain⟨rfl,rfl⟩:=trodVars_none hV;have K:=Dx hA;have hwt: ∀n∈DataW.weightsEach P fn.params.toList V,n≤reachBytes:=by
  intro n hn;have:=yf1.1 hsz n (vJ _ _ K.2 n hn);simpa using this
 obtain⟨d,hf,as,hle,hvr,hlen⟩:=Eg Y (λj t v h1 h2=>hval j t v (by rw[<-yq1];exact h1) (by rw[<-yq1];exact h2)) hA hwt;refine(hrun d hf W as args hg hle (by rw[hlen,yd2]) (by simpa using hvr)).mono λe W' he=>?_;obtain⟨rfl,hb⟩:=he;have hsp:=Z V (by rw[K.2,yd2]);have hrt: ∃t,fn.resultTypes= #[t]/\P.underlying t=some .bool:=by
  split at J
  ·rename_i t ht;split at J
   ·rename_i hu;exact⟨t,by cases hr:fn.resultTypes;simp_all,hu⟩
   ·cases J
  ·cases J
 obtain⟨t,hrt,hu⟩:=hrt;refine⟨_,rfl,V,[],p++ [],[],p,[],hW',?_,?_,?_,hb.frame _,λh=>by cases h⟩
 ·rw[yo1,hsp,hrt];exact trodAll_mk1 (shut_bool hu _)
 ·rw[yo1,hsp];exact Ae hl hb hread hA
 ·rw[yo1,hsp,N];rfl
end
end Go.Ab
