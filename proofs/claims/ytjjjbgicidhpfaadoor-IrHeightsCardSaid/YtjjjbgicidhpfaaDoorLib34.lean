import Derived.Test.YtjjjbgicidhpfaaDoorLib33
import Derived.OpenShut
import Derived.ShutString
import Derived.ChangeOld
import Derived.Below
import Derived.Carry
set_option linter.unusedVariables false
set_option linter.unusedSectionVars false
set_option linter.unusedSimpArgs false
namespace Go.Ab
variable [cS]
open Go.RowKit Go.ChangeShapes Go.WideShapes
variable {P:Program} {H:Type} {enc:TypeId×Value->H} {w:World}
noncomputable section
def WK:Sh->Option Ty
 | .int k=>some (.int k)
 | .bool=>some .bool
 | .str=>some .str
 | .sl β ag T=>bif β then some (.sl ag T)else none
 |_=>none
def FI(P:Program)(t:TypeId)(s:Sh):Bool:=match WK s with
 |some T=>Fd P (RJ P 8) t T
 |none=>false
def OM(P:Program):Nat->List (Nat×TypeId)->Sh->Bool
 |_,[],s=>(match s with| .nil=>true|_=>false)
 |n,q::r,s=>(match s with| .cons a b=>Nat.beq q.1 n&&FI P q.2 a&&OM P (n+1) r b|_=>false)
def TP(P:Program)(t:TypeId)(s:Sh):Bool:=match P.underlying t with
 |some (.struct _)=>(match s with
  | .agg l=>(match NC P 8 t with|some ls=>Nat.beq ls.length (P.cellsOf t)&&OM P 0 ls l|none=>false)
  |_=>false)
 |some (.array _ _)=>false
 |_=>FI P t s
def Iu(P:Program):List TypeId->Sh->Bool
 | [],s=>(match s with| .nil=>true|_=>false)
 |t::ts,s=>(match s with| .cons a b=>TP P t a&&Iu P ts b|_=>false)
def oO:(s:Sh)->s.den->Prop
 | .int k,x=>(Lit.int k x).wf=true
 | .str,x=>ByteArray.size x≤reachBytes
 | .sl _ ag T,xs=>JX (.sl ag T) xs
 | .agg l,p=>oO l p
 | .cons a b,p=>oO a (P2.fst a.dflt a.un b.un p)/\oO b (P2.snd b.dflt a.un b.un p)
 |_,_=>True
def Xc(w:World)(s:Sh)(v:Value):Prop:= ∃d:s.den,oO s d/\∃av,oS s [av] d/\VR (Jm w) w av v
theorem Nl{s:Sh}{T:Ty}{v:Value}(hs:WK s=some T)(h:Ic w T v):Xc w s v:=by
 obtain⟨x,hf,p,J,ho,hr⟩:=h;cases s with
 |int k=>
  obtain rfl:=yb hs;have J:=(yd1 J).1;subst J;cases hr;exact⟨x,hf,_,rfl,.lit _ rfl⟩
 |bool=>
  obtain rfl:=yb hs;have J:=(yd1 J).1;subst J;cases hr;exact⟨x,trivial,_,rfl,.lit _ rfl⟩
 |str=>
  obtain rfl:=yb hs;have J:=(yd1 J).1;subst J;cases hr;exact⟨x,hf,_,rfl,.lit _ rfl⟩
 |sl β ag K=>
  cases β with
  |false=>cases hs
  |true=>
   obtain rfl:=yb hs;have J:p=eJ ag K x:=((yd1 J).1).symm;subst J;exact⟨x,hf,.imm true (eJ ag K x),.inl ⟨true,λ_=>rfl,rfl⟩,.imm true _ v hr (vU ag K x)⟩
 |_=>cases hs
theorem GB{t:TypeId}{s:Sh}(h:FI P t s=true):AI P t:=by
 unfold FI at h;split at h
 ·exact GD h
 ·cases h
theorem Gb{t:TypeId}{s:Sh}{fuel:Nat}{v:Value}{y:DataW H×List MemPlace}(h:FI P t s=true)(hr:yK enc P w fuel t [v]=some y)(N:Lw P t y.1):Xc w s v:=by
 unfold FI at h;split at h
 ·rename_i T hT;exact Nl hT (Kl (enc:=enc) (rd:=RJ P 8) (fuel:=fuel) (λm t T cs x _ M K J=>RK m 8 t T cs x M K J) t T v h ⟨fuel,y,yb1 _,hr,N⟩)
 ·cases h
theorem JN{cs:List Value}: ∀{ls:List (Nat×TypeId)} {n:Nat} {s:Sh},OM P n ls s=true->(∀q∈ls,AI P q.2->∃m v y,cs[q.1]?=some v/\yK enc P w m q.2 [v]=some y/\Lw P q.2 y.1)->
  ∃d:s.den,oO s d/\∃avs:List AV,oS s avs d/\avs.length=ls.length/\∀(j:Nat) (a:AV),avs[j]?=some a->∃v,cs[n+j]?=some v/\VR (Jm w) w a v
 | [],n,s,h,hr=>by
  unfold OM at h;split at h
  ·exact⟨(),trivial,[],rfl,rfl,λj a N=>by simp at N⟩
  ·cases h
 |q::r,n,s,h,hr=>by
  unfold OM at h;split at h
  ·rename_i s a b;simp only[yc]at h;obtain⟨m,v,y,hv,hy,V⟩:=hr q (yn ..) (GB h.1.2);obtain⟨d,hf,O,U,Z⟩:=Gb h.1.2 hy V;obtain⟨K,W,avs,J,M,Y⟩:=JN h.2 λq hq=>hr q (yk _ hq);refine⟨P2.mk _ _ d K,⟨?_,?_⟩,O::avs,⟨O,avs,rfl,?_,?_⟩,by simp[M],λj a N=>?_⟩
   ·exact Eq.mpr (congrArg (oO a) (fst_mk d K)) hf
   ·exact Eq.mpr (congrArg (oO b) (snd_mk d K)) W
   ·exact Eq.mpr (congrArg (oS a [O]) (fst_mk d K)) U
   ·exact Eq.mpr (congrArg (oS b avs) (snd_mk d K)) J
   ·cases j with
    |zero=>
     simp at N;subst N;rw[nb.1 h.1.1]at hv;exact⟨v,hv,Z⟩
    |succ j=>
     obtain⟨v',h1,h2⟩:=Y j a (by simpa using N);exact⟨v',by rw[show n+(j+1)=n+1+j by omega];exact h1,h2⟩
  ·cases h
theorem Ok{t:TypeId}{v:Value}{r:Reach}{base:Nat}(J:AI P t)(h:Value.okWide P w r base t v):v.cells.toList= [v]:=by
 rcases J with ⟨k,ht⟩|ht|ht|⟨e,ht⟩<;>simp only[Value.okWide,ht,Cell.okWide]at h<;>cases v<;>simp_all[Cell.ok,Value.cells]
theorem QA{t:TypeId}{s:Sh}{v:Value}{r:Reach}{base:Nat}{d:DataW H}{ps:List MemPlace}(h:TP P t s=true)(hw:Value.okWide P w r base t v)(hr:DataW.Trod enc P w 0 (λ_=>true) true t v d ps)(J:Lw P t d):Xc w s v:=by
 obtain⟨fuel,hr⟩:=hr;unfold TP at h;split at h
 ·rename_i fs ht;split at h
  ·rename_i s l;split at h
   ·rename_i ls Y;simp only[yc]at h;obtain⟨cs,rfl,U⟩:=okWide_struct ht hw;have W:yK enc P w fuel t cs.toList=some (d,ps):=hr;obtain⟨d,hf,avs,O,K,Z⟩:=JN (enc:=enc) (w:=w) (cs:=cs.toList) h.2 λq hq N=>by
     obtain⟨m,v,y,_,M,V,h3⟩:=FS 8 Y W J q hq N;exact⟨m,v,y,M,V,h3⟩
    refine⟨d,hf,.agg avs,⟨avs,rfl,O⟩,.agg avs cs (by rw[K,nb.1 h.1,U]) λj y hy=>?_⟩;obtain⟨v,M,V⟩:=Z j y hy;rw[ye1]at M;rw[yo,<-yx1,M];exact V
   ·cases h
  ·cases h
 ·cases h
 ·have hl:=GB h;rw[Ok hl hw]at hr;exact Gb h hr J
theorem F8{r:Reach}{base:Nat}: ∀{ts:List TypeId} {s:Sh} {vs:List Value} {O:List (DataW H)} {ps:List MemPlace},Iu P ts s=true->(∀(j:Nat) (t:TypeId) (v:Value),ts[j]?=some t->vs[j]?=some v->Value.okWide P w r base t v)->
  DataW.TrodAll enc P w 0 (λ_=>true) true ts vs O ps->(∀n∈DataW.weightsEach P ts O,n≤reachBytes)->∃d:s.den,oO s d/\∃as:List AV,oS s as d/\rZ (Jm w) w as vs.toArray/\as.length=ts.length
 | [],s,vs,O,ps,h,Z,hr,J=>by
  unfold Iu at h;split at h
  ·obtain⟨rfl,rfl,rfl⟩:=trodAll_nil hr;exact⟨(),trivial,[],rfl,rZ.nil,rfl⟩
  ·cases h
 |t::ts,s,vs,O,ps,h,Z,hr,J=>by
  unfold Iu at h;split at h
  ·rename_i s a b;rw[yc]at h;obtain⟨v,vs',d,ds',p,q,rfl,rfl,rfl,Y,W⟩:=trodAll_cons hr;obtain⟨d,hf,U,V,hv⟩:=QA h.1 (Z 0 t v rfl rfl) Y (λn hn=>J n (by simp only[DataW.weightsEach,yr1];exact .inl hn));obtain⟨M,hf2,as,K,hvs,N⟩:=F8 h.2 (λj t v Y W=>Z (j+1) t v (by simpa using Y) (by simpa using W)) W (λn hn=>J n (by simp only[DataW.weightsEach,yr1];exact .inr hn));refine⟨P2.mk _ _ d M,⟨?_,?_⟩,U::as,⟨U,as,rfl,?_,?_⟩,rZ.cons hv hvs,by simp[N]⟩
   ·exact Eq.mpr (congrArg (oO a) (fst_mk d M)) hf
   ·exact Eq.mpr (congrArg (oO b) (snd_mk d M)) hf2
   ·exact Eq.mpr (congrArg (oS a [U]) (fst_mk d M)) V
   ·exact Eq.mpr (congrArg (oS b as) (snd_mk d M)) K
  ·cases h
theorem BK(U:laidOutB P=true){M:World}(O:Below w.heap.size w M): ∀{ts:List TypeId} {vs:List Value} {J:List (DataW H)} {ps:List MemPlace},(ts.all λt=>P.readableRec t&&Nat.blt t P.types.size)=true->
  DataW.TrodAll enc P w 0 (λ_=>true) true ts vs J ps->DataW.TrodAll enc P M 0 (λb=>decide (b<w.heap.size)) true ts vs J ps
 | [],vs,J,ps,ht,hr=>by
  obtain⟨rfl,rfl,rfl⟩:=trodAll_nil hr;exact trodAll_mk0
 |t::ts,vs,J,ps,ht,hr=>by
  rw[yn3,yc,yc]at ht;obtain⟨v,V,d,Y,p,q,rfl,rfl,rfl,N,W⟩:=trodAll_cons hr;have K: ∀x∈p,x.block<w.heap.size:=by obtain⟨m,hm⟩:=N;exact DataW.trod_lt m _ _ _ hm
  exact trodAll_cons_mk (Below.trod U ht.1.1 (Nat.blt_eq ▸ ht.1.2) N O K) (BK U O ht.2 W)
theorem Gx{M:Nat->Bool}{J:Bool}{base:Nat}: ∀{ts:List TypeId} {vs:List Value} {K:List (DataW H)} {ps:List MemPlace},DataW.TrodAll enc P w base M J ts vs K ps->vs.length=ts.length/\K.length=ts.length
 | [],vs,K,ps,hr=>by
  obtain⟨rfl,rfl,rfl⟩:=trodAll_nil hr;exact⟨rfl,rfl⟩
 |t::ts,vs,K,ps,hr=>by
  obtain⟨v,O,d,U,p,q,rfl,rfl,rfl,h1,N⟩:=trodAll_cons hr;have:=Gx N;exact⟨by simp[this.1],by simp[this.2]⟩
def GG(P:Program)(fn:Func)(sh:Sh):Bool:=
 laidOutB P&&Iu P fn.params.toList sh&&(fn.params.toList.all λt=>P.readableRec t&&Nat.blt t P.types.size)&&
 (match fn.resultTypes.toList with| [t]=>(match P.underlying t with|some .bool=>true|_=>false)|_=>false)
theorem w7(J:List TypeId)(K:List (DataW H)): ∀{ts:List TypeId} {M:List (DataW H)},M.length=ts.length->∀n∈DataW.weightsEach P ts M,n∈DataW.weightsEach P (ts++J) (M++K)
 | [],[],_,n,hn=>by simp[DataW.weightsEach]at hn
 |t::ts,d::M,h,n,hn=>by
  simp only[yo3,DataW.weightsEach,yr1]at hn⊢
  exact hn.imp id (w7 J K (by simpa using h) n)
 | [],_::_,h,_,_=>by simp at h
 |_::_,[],h,_,_=>by simp at h
theorem j7{f:FuncId}{fn:Func}{s:ChangeSpec}{sh:Sh}(M:GG P fn sh=true)(N:s.vars= [])
  (Z: ∀U:List (DataW H),U.length=fn.params.size->s.fn H U={results:= [.lit (.bool true)],args:=U})
  (hrun: ∀d:sh.den,oO sh d->∀(W:World) (as:List AV) (K:Array Value),o4 (Jm W) W->oS sh as d->as.length=fn.params.size->rZ (Jm W) W as K->Calls P f K W λe W'=>e= .returned (.bool true)/\Below W.heap.size W W')
  {W:World} (hg:o4 (Jm W) W) {base:Nat} {args:Array Value} {U gs:List (DataW H)} {V:List MemPlace}
  (hval: ∀(j:Nat) t v,fn.params[j]?=some t->args[j]?=some v->Value.okWide P W .any base t v) (hW:DataW.Whole enc P fn.params.toList s.vars false W args.toList U gs V)
  (hsz:(DataW.weightsEach P (fn.params.toList++s.plain.varTypes P) (U++gs)).all (· ≤reachBytes)=true):
  Calls P f args W λe W'=> ∃v,e= .returned v/\s.post enc P fn false true false false W args v W':=by
 unfold GG at M;simp only[yc]at M;obtain⟨⟨⟨hl,hargs⟩,hread⟩,J⟩:=M;have hW':=hW;obtain⟨p,q,hA,hV,rfl,hfz,hnd⟩:=hW;rw[N]at hV;obtain⟨rfl,rfl⟩:=trodVars_none hV;have O:=Gx hA;have hwt: ∀n∈DataW.weightsEach P fn.params.toList U,n≤reachBytes:=by
  intro n hn;have:=ya1.1 hsz n (w7 _ _ O.2 n hn);simpa using this
 obtain⟨d,hf,as,hle,hvr,hlen⟩:=F8 hargs (λj t v h1 h2=>hval j t v (by rw[<-yx1];exact h1) (by rw[<-yx1];exact h2)) hA hwt;refine(hrun d hf W as args hg hle (by rw[hlen,yi2]) (by simpa using hvr)).mono λe W' he=>?_;obtain⟨rfl,hb⟩:=he;have Y:=Z U (by rw[O.2,yi2]);have hrt: ∃t,fn.resultTypes= #[t]/\P.underlying t=some .bool:=by
  split at J
  ·rename_i t ht;split at J
   ·rename_i hu;exact⟨t,by cases hr:fn.resultTypes;simp_all,hu⟩
   ·cases J
  ·cases J
 obtain⟨t,hrt,hu⟩:=hrt;refine⟨_,rfl,U,[],p++ [],[],p,[],hW',?_,?_,?_,hb.frame _,λh=>by cases h⟩
 ·rw[ys1,Y,hrt];exact trodAll_mk1 (shut_bool hu _)
 ·rw[ys1,Y];exact BK hl hb hread hA
 ·rw[ys1,Y,N];rfl
end
end Go.Ab
