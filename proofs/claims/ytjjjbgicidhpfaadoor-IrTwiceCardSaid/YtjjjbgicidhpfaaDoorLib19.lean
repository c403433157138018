import Derived.Test.YtjjjbgicidhpfaaDoorLib18
set_option linter.unusedVariables false
set_option linter.unusedSectionVars false
set_option linter.unusedSimpArgs false
namespace Go.Ab
variable [cF]
section
variable {P:Program} {R:Type} {r:R} {mem:aF} {tab:TypeId->Option TI}
def fJ(env:Nat->KV)(tmps:List AV):Prop:= ∀t,env t= .gone\/eO tmps t=some (env t).down/\gK (env t).down=false
theorem pF{v:KV}:gK v.down=true↔v= .gone:=by
 cases v with
 |tsl β ag T xs=>
  constructor
  ·intro h;have:=x6 ag T xs;simp only[KV.down]at h;cases H:dS ag T xs with
   |agg _=>rw[H]at this;cases this
   |lit _=>rw[H]at h;cases β<;>cases h
   |ints _ _=>rw[H]at h;cases β<;>cases h
   |sl _ _=>rw[H]at h;cases β<;>cases h
  ·intro h;cases h
 |gone=>simp[KV.down,AV.goneV,gK]
 |dead=>simp[KV.down,AV.dead,gK]
 |unkB=>simp[KV.down,AV.unkB,gK]
 |_=>simp[KV.down,gK]
theorem Pb: ∀{l:List Value},zI l=true->Jw l=some (KV.downs (l.map .lit))
 | [],_=>rfl
 |v::l,h=>by
  simp only[zI,yc]at h;simp[Jw,guardB,h.1,Pb h.2,KV.downs,KV.down]
theorem Lr{v:Value}(h:Ks v=true):Aj v=some (Jq v).down:=by
 cases v<;>try rfl
 rename_i cs;simp only[Ks]at h;simp[Aj,Jq,Pb h,KV.down]
theorem aU{env:Nat->KV}{tmps:List AV}(U:fJ env tmps){x:Operand}{k:KV->Option R}(h:eZ env x k=some r): ∃v,cC tmps x=some v.down/\k v=some r/\v≠ .gone:=by
 unfold eZ at h;split at h
 ·rename_i t;have ht:=U t;have K: ∀v,env t=v->v≠ .gone->k v=some r->∃v,cC tmps (.tmp t)=some v.down/\k v=some r/\v≠ .gone:=by
   intro v O N V;rcases ht with H|⟨H,M⟩
   ·exact absurd (O ▸ H) N
   ·rw[O]at H M;refine⟨v,?_,V,N⟩;simp only[cC,Fo,H,yb,M,yh]
  split at h
  ·cases h
  ·rename_i J;exact K _ rfl (λe=>J e) h
 ·rename_i c;rw[bZ]at h;refine⟨_,Lr h.1,h.2,?_⟩;cases c<;>simp[Jq]
 ·exact⟨_,rfl,h,by simp⟩
 ·rename_i g;split at h
  ·rename_i q W;exact⟨_,by simp only[cC,W];rfl,h,by simp⟩
  ·cases h
theorem lW{env:Nat->KV}{tmps:List AV}(K:fJ env tmps): ∀{xs:List Operand} {k:List KV->Option R},vC env xs k=some r->∃vs,oZ (cC tmps) xs=some (KV.downs vs)/\k vs=some r/\∀v∈vs,v≠ .gone
 | [],k,h=>⟨[],rfl,h,by simp⟩
 |x::xs,k,h=>by
  simp only[vC]at h;obtain⟨v,M,h,N⟩:=aU K h;obtain⟨vs,J,h,H⟩:=lW K h;exact⟨v::vs,by simp[oZ,M,J,KV.downs],h,by simpa using⟨N,H⟩⟩
noncomputable def lK(ps:List (Nat×KV)):List (Nat×AV):=ps.map λq=>(q.1,q.2.down)
theorem sI{env:Nat->KV}{tmps:List AV}(J:fJ env tmps): ∀{xs:List (Nat×Operand)} {k:List (Nat×KV)->Option R},CK env xs k=some r->∃ps,lT (cC tmps) xs=some (lK ps)/\k ps=some r
 | [],k,h=>⟨[],rfl,h⟩
 |(i,x)::xs,k,h=>by
  simp only[CK]at h;obtain⟨v,K,h,hg⟩:=aU J h;obtain⟨vs,H,h⟩:=sI J h;exact⟨(i,v)::vs,by simp[lT,K,H,lK],h⟩
theorem qV{env:Nat->KV}{tmps:List AV}(J:fJ env tmps){x:Option Operand}{k:Option Int->Option R}(h:LC env x k=some r): ∃i,BQ (cC tmps) x=some i/\k i=some r:=by
 cases x with
 |none=>exact⟨none,rfl,h⟩
 |some x=>
  simp only[LC]at h;obtain⟨v,H,h,hg⟩:=aU J h;split at h
  ·rename_i kd n;exact⟨some n,by simp[BQ,H,KV.down,NA],h⟩
  ·cases h
theorem Hx(ht:bT P tab){s:TypeId}{f:Nat}{k:Nat->Nat->TypeId->Option R}(h:JM tab s f k=some r): ∃off n t,mN P s f=some (off,n,t)/\k off n t=some r:=by
 unfold JM at h;split at h
 ·rename_i ti O;split at h
  ·rename_i fs V;obtain⟨l,U,hc⟩:=(b5.of (ht _ _ O)).under_st V;split at h
   ·rename_i q J;rw[bZ]at h;obtain⟨W,h⟩:=h;obtain⟨H,hf,N,K,M⟩:=chkFs_get hc (by rw[<-bA];exact J);refine⟨_,_,_,?_,h⟩;unfold mN;rw[U];simp only;rw[<-yq1,hf];rw[K]at M;simp only[yb,N,K,M];rw[eK];exact⟨W,rfl⟩
   ·cases h
  ·cases h
 ·cases h
 where
 chkFs_get: ∀{fs:List (Nat×Nat×TypeId)} {l:List Field} {f:Nat} {q:Nat×Nat×TypeId},E7 P fs l=true->fs[f]?=some q->∃H,l[f]?=some H/\H.offset=q.1/\H.type=q.2.2/\jR P H.type=some q.2.1
  |q0::fs,H::l,0,q,hc,J=>by
   simp only[E7,yc]at hc;obtain rfl:=ya J;refine⟨H,rfl,(nb.1 hc.1.1.1).symm,(nb.1 hc.1.1.2).symm,?_⟩;have:=hc.1.2;split at this
   ·rename_i n hn;rw[hn,nb.1 this]
   ·cases this
  |q0::fs,H::l,f+1,q,hc,J=>by
   simp only[E7,yc]at hc;exact chkFs_get (fs:=fs) (l:=l) hc.2 (by simpa using J)
  | [],_,f,q,_,J=>by simp at J
  |_::_,[],f,q,hc,_=>by cases hc
theorem Dg{H:Nat->Option (Nat×Nat)}: ∀{ps:List (Nat×KV)} {cs J:List KV},Ef H cs ps=some J->Er H (KV.downs cs) (lK ps)=some (KV.downs J)
 | [],cs,J,h=>by simp only[Ef,Option.some.injEq]at h;subst h;rfl
 |(i,v)::ps,cs,J,h=>by
  simp only[Ef]at h;split at h
  ·rename_i q M;rw[bZ]at h;obtain⟨N,h⟩:=h;have K:=Dg h;rw[vT]at K;simp only[lK,yg2,Er,M,yb,eK,eS,aJ];exact⟨N,K⟩
  ·cases h
theorem E1: ∀{fs:List (Nat×Nat×TypeId)} {l:List Field},E7 P fs l=true->places? P l=some (fs.map λq=>(q.1,q.2.1))
 | [],[],_=>rfl
 |q::fs,f::l,h=>by
  simp only[E7,yc]at h;have J:=nb.1 h.1.1.1;have H:=h.1.2;split at H
  ·rename_i n hn;simp[places?,hn,E1 h.2,J,nb.1 H]
  ·cases H
 | [],_::_,h=>by cases h
 |_::_,[],h=>by cases h
theorem Oj(ht:bT P tab){t:TypeId}{ps:List (Nat×KV)}{k:bC->Option R}(h:(match tab t with
  |some K=>
   (match K.tk with
   | .st fs=>(match Ef (λi=>match eO fs i with|some q=>some (q.1,q.2.1)|none=>none) (e8 K).cells ps with|some cs=>k (gV (.agg cs))|none=>none)
   | .arr _ e=>(match tab e with|some W=>(match Ef (λi=>some (i*W.n,W.n)) (e8 K).cells ps with|some cs=>k (gV (.agg cs))|none=>none)|none=>none)
   |_=>none)
  |none=>none)=some r): ∃v,C1 P t (lK ps)=some v.down/\k (gV v)=some r:=by
 split at h
 ·rename_i K V;have H:=b5.of (ht _ _ V);have Y:=H.zero_eq.1;split at h
  ·rename_i fs O;obtain⟨l,N,hc⟩:=H.under_st O;split at h
   ·rename_i cs J;refine⟨.agg cs,?_,h⟩;have:=Dg J;unfold C1;rw[Y,N];simp only[yb,E1 hc];rw[(zeroCells H).1];rw[show(λi=>(fs.map λq=>(q.1,q.2.1))[i]?)=(λi=>match eO fs i with|some q=>some (q.1,q.2.1)|none=>none)from ?_,this]
    ·rfl
    ·funext i;rw[bA,yg1];cases fs[i]?<;>rfl
   ·cases h
  ·rename_i n e O;have N:=H.under_arr O;split at h
   ·rename_i W M;have U:=b5.of (ht _ _ M);split at h
    ·rename_i cs J;refine⟨.agg cs,?_,h⟩;have:=Dg J;unfold C1;rw[Y,N];simp only[yb,U.n];rw[(zeroCells H).1,this];rfl
    ·cases h
   ·cases h
  ·cases h
 ·cases h
theorem QG{c a b:KV}{k:KV->Option R}(h:Sq (aS R) c a b k=some r): ∃v,Jb c.down a.down b.down=some v.down/\k v=some r:=by
 unfold Sq at h;split at h
 ·rename_i t;split at h
  ·rename_i x y;exact⟨_,rfl,h⟩
  ·rename_i H;simp only[real_ite]at h;have K:Jb (.lit (.bool t)) a.down b.down=(bif t then some a.down else some b.down):=by
    unfold Jb;simp only;split
    ·rename_i x y M J;exfalso;cases a<;>simp[KV.down,AV.dead,AV.goneV,AV.unkB]at M;cases b<;>simp[KV.down,AV.dead,AV.goneV,AV.unkB]at J;subst M;subst J;exact H _ _ rfl rfl
    ·rfl
   cases t with
   |true=>exact⟨a,by rw[show KV.down (.lit (.bool true))= .lit (.bool true)from rfl,K];rfl,h⟩
   |false=>exact⟨b,by rw[show KV.down (.lit (.bool false))= .lit (.bool false)from rfl,K];rfl,h⟩
 ·cases h
theorem Hg(ht:bT P tab){t V:TypeId}{W:TI}(U:tab t=some W)(Z:W.tk= .sl V){J:TI}{T:Ty}(N:tab V=some J)(hT:J.ty=some T):
  rS P t=some (dS J.ag T [])/\KH (dS J.ag T [])=some (KRow.ts false J.ag T []).down:=by
 have O:=b5.of (ht _ _ U);have H:=b5.of (ht _ _ N);have Y:=O.under_sl Z;unfold rS elemOf?;rw[Y];simp only[yb];cases M:a6 J.ag T with
 |true=>
  obtain⟨K,kk,rfl⟩:=aO.1 M;rw[(H.intKind hT K).1,K];exact⟨rfl,rfl⟩
 |false=>
  rw[H.intKind_none hT M,cB M,KRow.down_sl M];have hn:=(H.ty T hT).2.1;simp only[H.n,yb,hn,yf4,KH,and_true];rw[eK];exact⟨nl.2 (by rw[<-hn];exact Ty.size_pos),rfl⟩
theorem IB(ht:bT P tab){boxed vars:Bool}{t:TypeId}{rs:Nat}{env:Nat->KV}{tmps:List AV}(Y:fJ env tmps){x:Operand}{k:bC->Option R}(h:OL tab boxed vars t rs env x k=some r):
  ∃out,k out=some r/\x5 P boxed vars (cC tmps) t rs x=some out.down:=by
 unfold OL at h;unfold x5;cases hc:kI x&&boxed&&!vars with
 |true=>
  rw[hc]at h;simp only[yg]at h⊢
  split at h
  ·rename_i W J;split at h
   ·rename_i V K;obtain⟨te,T,H,hT,h⟩:=qB ht h;obtain⟨O,U⟩:=Hg ht J K H hT;refine⟨_,h,?_⟩;rw[O];simp only[yb,U,yl];rfl
   ·cases h
  ·cases h
 |false=>
  rw[hc]at h;simp only[yh]at h⊢
  obtain⟨v,Z,h,hg⟩:=aU Y h;rw[Z];simp only[yb];split at h
  ·cases boxed with
   |true=>simp only[yg]at h;exact⟨_,h,rfl⟩
   |false=>
    simp only[yh]at h;split at h
    ·rename_i W J;split at h
     ·rename_i V K;obtain⟨te,T,H,hT,h⟩:=qB ht h;obtain⟨O,U⟩:=Hg ht J K H hT;refine⟨_,h,?_⟩;simp only[KV.down,yh,O,yl];rfl
     ·cases h
    ·cases h
  ·rename_i M;refine⟨_,h,?_⟩
   have: ∀w,w=v.down->(match w with
    | .lit (.slice none 0 0)=>bif boxed then some ({v:=w}:dI)else(rS P t).map λp=>{v:= .imm false p}
    |w=>some {v:=w})=some (gV v).down:=by
    intro w N;split
    ·exfalso;cases v<;>simp[KV.down,AV.dead,AV.goneV,AV.unkB]at N;subst N;exact M rfl
    ·rw[N];rfl
   exact this _ rfl
theorem K8(ht:bT P tab){t:TypeId}{x ix:KV}{k:bC->Option R}{ρ:Operand->Option AV}{ox Y:Operand}(hx:ρ ox=some x.down)(hi:ρ Y=some ix.down)(h:J8 (aS R) tab t x ix k=some r):
  ∃out,k out=some r/\rC P ρ t ox Y=some out.down:=by
 unfold rC;rw[hx,hi];simp only[yb];unfold J8 at h;split at h
 ·rename_i cs kd i;split at h
  ·rename_i ti H;have J:=b5.of (ht _ _ H);split at h
   ·rename_i n e O;have N:=J.under_arr O;split at h
    ·rename_i te M;have K:=b5.of (ht _ _ M);rw[bZ]at h;obtain⟨V,h⟩:=h;simp only[yc,yw]at V;have W:=nb.1 V.2;simp only[real_guard]at h;rw[bZ]at h;obtain⟨U,h⟩:=h;obtain⟨v,_,hv,h⟩:=Hn h;rw[Nat.sub_zero]at hv;refine⟨_,h,?_⟩;have Z:=K.ag;rw[V.1]at Z;simp only[KV.down,N,Z,yb,K.n,W];rw[eK];refine⟨?_,by rw[nT hv];rfl⟩;simp only[yc]at U⊢
     exact⟨⟨⟨rfl,rfl⟩,U.1⟩,U.2⟩
    ·cases h
   ·cases h
  ·cases h
 ·rename_i s kd i;split at h
  ·rename_i ti H;have J:=b5.of (ht _ _ H);split at h
   ·rename_i O;have N:=J.under_str O;simp only[real_get]at h;rw[FJ]at h;obtain⟨n,hn,h⟩:=h;refine⟨_,h,?_⟩;simp only[KV.down,N,hn,yl];rfl
   ·cases h
  ·cases h
 ·cases h
theorem zG{boxed:Bool}{rs:Nat}{row:KRow}{rd:List Nat}{wr:List (Nat×dE)}{k:bC->Option R}(h:IW boxed rs row rd wr k=some r):
  ∃v w,k ⟨v,rd,wr++w,[]⟩=some r/\vH boxed rs row.view=some {v:=v.down,wr:=w.map λq=>(q.1,q.2.down)}:=by
 unfold IW at h;cases boxed with
 |true=>
  simp only[yg]at h;cases H:iX row with
  |true=>rw[H]at h;cases h
  |false=>
   rw[H]at h;exact⟨_,_,h,by simp[vH,KV.down,dE.down,HJ _ H]⟩
 |false=>
  simp only[yh]at h;split at h
  ·exact⟨_,[],by simpa using h,by simp only[vH,yh,Si];rfl⟩
  ·cases h
theorem vY: ∀(ps:List (Nat×KV)) (vs:List KV),KV.downs (s7 vs ps)=nZ (KV.downs vs) (lK ps)
 | [],vs=>rfl
 |(i,v)::ps,vs=>by simp only[s7,lK,yg2,nZ,d8,vY ps,y8]
theorem r6{e:Nat}: ∀{vs:List KV},qR e vs=true->nG e (KV.downs vs)=true
 | [],_=>rfl
 |v::vs,h=>by
  simp only[qR,yc]at h;simp only[KV.downs,nG,yc,eS,aJ];exact⟨h.1,r6 h.2⟩
theorem sY{n:Nat}: ∀{ps:List (Nat×KV)},vU n ps=true->pV n (lK ps)=true
 | [],_=>rfl
 |(i,v)::ps,h=>by
  simp only[vU,yc]at h;simp only[lK,yg2,pV,yc];exact⟨h.1,sY h.2⟩
theorem qJ: ∀{vs:List KV},iJ (KV.downs vs)=KV.downs (lV vs)
 | []=>rfl
 |v::vs=>by simp only[KV.downs,iJ,lV,qJ,eS];simp[cQ]
theorem Iy(n:Nat)(v:KV):KV.downs (List.replicate n v)=List.replicate n v.down:=by simp[cQ]
theorem Fs(ht:bT P tab){boxed vars:Bool}{env:Nat->KV}{tmps:List AV}(he:fJ env tmps){rs:Nat}{t:TypeId}{len:Nat}{J:Array (Nat×Operand)}{k:bC->Option R}
  (h:vV (aS R) tab boxed vars env mem rs t len J k=some r): ∃out,k out=some r/\f6 P boxed vars (cC tmps) (aB mem) rs t len J=some out.down:=by
 unfold vV at h;have U:=gG ht h;clear h;obtain⟨V,K,het,Y,h,hu⟩:=U;have H:=b5.of (ht _ _ Y);have U:=sI he h;clear h;obtain⟨ps,hps,h⟩:=U;simp only at h;rw[bZ]at h;obtain⟨hg,h⟩:=h;simp only[yc]at hg;obtain⟨⟨⟨⟨⟨g1,g2⟩,g3⟩,g4⟩,g5⟩,g6⟩:=hg;have O: ∀{wv:aL×List Nat} {o:dI} {out:bC},oL P vars (aB mem) V (KV.downs (s7 (List.replicate len (e8 K)) ps))=some wv->wv.1.e=K.n->vH (boxed||Nat.beq len 0) rs wv.1=some o->
   ({v:=o.v,rd:=wv.2,wr:=cA (aB mem) wv.2++o.wr}:dI)=out.down->f6 P boxed vars (cC tmps) (aB mem) rs t len J=some out.down:=by
  intro wv o out Z h2 h3 h4;unfold f6;rw[het];simp only[yb,H.zero_eq.1,H.n,hps];rw[eK];constructor
  ·simp only[yc];refine⟨⟨⟨⟨sY g1,g2⟩,g3⟩,g4⟩,?_⟩
   have:(e8 K).down::(lK ps).map (·.2)=KV.downs (e8 K::ps.map (·.2)):=by simp[KV.downs,lK,cQ]
   rw[this];exact r6 g5
  ·rw[<-Iy,<-vY,Z];simp only[yb];rw[eK];exact⟨nb.2 h2,by rw[h3,<-h4];rfl⟩
 split at h
 ·rename_i kd W;rw[bZ]at h;obtain⟨hn1,h⟩:=h;split at h
  ·rename_i xs hxs;obtain⟨v,w,h,hm⟩:=zG h;refine⟨_,h,O (wv:=(.ints kd xs,[])) ?_ (nb.1 hn1).symm hm ?_⟩
   ·unfold oL;have:intKind? P V=some kd:=by unfold intKind?;rw[H.under_int W]
    rw[this];simp only[Bv hxs,yl]
   ·simp[bC.down,aB,cA]
  ·cases h
 ·rename_i hnk;have M:intKind? P V=none:=by
   have N:=H.tk;unfold intKind?;cases hu2:P.underlying V with
   |none=>rfl
   |some d=>
    cases d with
    |int kk=>
     exfalso;unfold pL at N;rw[hu2]at N;cases W:K.tk with
     |int k2=>exact hnk k2 W
     |_=>rw[W]at N;cases N
    |_=>rfl
  cases vars with
  |true=>
   simp only[yg]at h;rw[bZ]at h;obtain⟨Z,h⟩:=h;obtain⟨v,w,h,hm⟩:=zG h;refine⟨_,h,O (wv:=((KRow.cells K.n (lV (s7 (List.replicate len (e8 K)) ps))).view,[])) ?_ rfl hm (by simp[bC.down,aB,cA])⟩;unfold oL;rw[M];simp only[H.n,yb,yg];rw[eK];simp only[yc,qJ];exact⟨⟨⟨r6 g6,g3⟩,fG Z⟩,rfl⟩
  |false=>
   simp only[yh]at h;split at h
   ·rename_i T hT;have U:=Ez H hT h;clear h;obtain⟨xs,β,l,h,hfe⟩:=U;obtain⟨v,w,h,hm⟩:=zG h;have hni:a6 K.ag T=false:=by
     cases hi:a6 K.ag T with
     |false=>rfl
     |true=>
      obtain⟨hag,kk,rfl⟩:=aO.1 hi;rw[(H.intKind hT hag).1]at M;cases M
    refine⟨_,h,O (wv:=((KRow.ts β K.ag T xs).view,l)) ?_ (by rw[Ke];exact(H.ty T hT).2.1) hm ?_⟩
    ·unfold oL;rw[M];simp only[H.n,yb,yh,hfe,yl];rw[KRow.view_sl hni,(H.ty T hT).2.1]
    ·simp only[bC.down,ye4,vR];simp[aB]
   ·cases h
theorem GK(ht:bT P tab){boxed:Bool}{rs:Nat}{t:TypeId}{l c:KV}{k:bC->Option R}{ρ:Operand->Option AV}{ol oc:Operand}(hl:ρ ol=some l.down)(hc:ρ oc=some c.down)
  (h:A3 (aS R) tab boxed mem t rs l c k=some r): ∃out,k out=some r/\Cs P boxed ρ (aB mem) rs t ol oc=some out.down:=by
 unfold A3 at h;have h0:=gG ht h;clear h;obtain⟨et,N,het,Z,h,hu⟩:=h0;have H:=b5.of (ht _ _ Z);unfold Cs;rw[het];simp only[yb,H.zero_eq.1,hl,hc];split at h
 ·rename_i k1 n k2 n';split at h
  ·rename_i T hT;rw[bZ]at h;obtain⟨hg,h⟩:=h;simp only[yc]at hg;obtain⟨⟨⟨g1,g2⟩,g3⟩,g4⟩:=hg;obtain⟨⟨ls,hls,M⟩,hn,hag,hd⟩:=H.ty T hT;have h0:=nU M hd h;clear h;obtain⟨z,β,ids,h,hz⟩:=h0;cases he:fZ ids with
   |false=>rw[he]at h;cases h
   |true=>
    rw[he]at h;simp only[yf2,yh,real_guard]at h;rw[bZ]at h;obtain⟨hb,h⟩:=h;obtain⟨v,w,h,hm⟩:=zG h;refine⟨_,h,?_⟩;simp only[KV.down];rw[eK];refine⟨hb,?_⟩;have V:(e8 N).down.cells=KV.downs (N.zero.map .lit):=by rw[(zeroCells H).1,(zeroCells H).2.1]
    have htp:vL P (aB mem) et (e8 N).down=some (β,cR N.ag T z,ids):=by
     unfold vL;rw[hls,yb,V,hz];simp only[yb,rB H.ag hag,yl]
    have ho:(vH boxed rs (KRow.ts β N.ag T (List.replicate n.toNat z)).view)=some (bC.mk v [] ([]++w) []).down:=by
     rw[hm];simp[bC.down,aB]
    cases hi:a6 N.ag T with
    |true=>
     obtain⟨K,W,rfl⟩:=aO.1 hi;rw[(H.intKind hT K).1];have hn1:N.n=1:=(hn:1=N.n).symm;simp only[H.n,H.bytes,yb];have U: ∃zi:Int,fM W [(e8 N).down]=some [zi]/\(zi:den (.int W))=z:=by
      obtain⟨_,_,h3⟩:=H.zero_eq;obtain⟨v0,hv0,hzk⟩:=h3 K;rw[hzk];rw[hv0]at hz;have J:cD (kA P (aB mem)) ls [AV.lit v0]=some (β,[.lit (.int W z)],ids):=hz;have Y:ls= [.int W]:=by
       simp only[a7]at M;split at M
       ·rw[vO.1 M]
       ·cases M
      rw[Y]at J;simp only[cD,FJ]at J;obtain⟨a,O,b,hb',J⟩:=J;obtain rfl:=ya hb';simp only[Option.some.injEq,Prod.mk.injEq,List.cons.injEq,and_true]at J;replace O:bD P (aB mem) 6 (.int W) (.lit v0)=some a:=O;cases v0<;>simp only[bD]at O<;>first|cases O|skip
      rename_i k3 n3;rw[eK]at O;obtain⟨hk3,O⟩:=O;obtain rfl:=ya O;obtain rfl:=vO.1 hk3;simp only[PV.lit.injEq,Value.int.injEq,true_and]at J;exact⟨n3,by simp[KV.down,fM,vO.2],(Value.int.inj J.2.1).2⟩
     obtain⟨zi,U,rfl⟩:=U;rw[U];simp only[yb,List.headD_cons];rw[eK];refine⟨by simp only[yc];exact⟨nb.2 hn1,g2⟩,?_⟩;rw[<-ho,K];rfl
    |false=>
     rw[H.intKind_none hT hi,htp];simp only[yb,H.n,H.bytes];rw[eK];refine⟨?_,?_⟩
     ·simp only[yc];exact⟨⟨⟨g1,g2⟩,by rw[V,aJ,yk1];exact g4⟩,he⟩
     ·rw[<-ho,KRow.view_sl hi,List.map_replicate,hn]
  ·cases h
 ·cases h
theorem Km(ht:bT P tab){boxed:Bool}{Y dst:TypeId}{rs:Nat}{x:KV}{k:bC->Option R}(h:Gz (aS R) tab boxed Y dst mem rs x k=some r):
  ∃out,k out=some r/\mM P boxed Y dst (aB mem) rs x.down=some out.down:=by
 unfold Gz at h;split at h
 ·rename_i s d hs hd;have K:=b5.of (ht _ _ hs);have M:=b5.of (ht _ _ hd);unfold mM;split at h
  ·rename_i k1 kd H J;split at h
   ·rename_i n;refine⟨_,h,?_⟩;rw[K.under_int H,M.under_int J];rfl
   ·cases h
  ·rename_i H J;split at h
   ·refine⟨_,h,?_⟩;rw[K.under_str H,M.under_str J];rfl
   ·cases h
  ·rename_i e H J;rw[K.under_sl H,M.under_str J];split at h
   ·rename_i te O;have N:=b5.of (ht _ _ O);split at h
    ·rename_i ke U;rw[bZ]at h;obtain⟨V,h⟩:=h;simp only[yc]at V;obtain⟨⟨g1,g2⟩,g3⟩:=V;have h0:=CY ht h;clear h;obtain⟨row,rd,h,hv⟩:=h0;split at h
     ·rename_i β ag ke' xs;rw[bZ]at h;obtain⟨W,h⟩:=h;simp only[yc,yw]at W;obtain⟨g4,rfl⟩:=W;refine⟨_,h,?_⟩;simp only;rw[N.under_int U,vO.1 g1];simp only[hv,yb,N.n,nb.1 g2];rw[eK];refine⟨by simp only[yz3];exact AL ht g3,?_⟩;obtain rfl:=vO.1 g4;rfl
     ·cases h
    ·cases h
   ·cases h
  ·rename_i e0 e H J;rw[K.under_sl H,M.under_sl J];split at h
   ·rename_i te b g O;have N:=b5.of (ht _ _ O);split at h
    ·rename_i ke U;rw[bZ]at h;obtain⟨V,h⟩:=h;simp only[yc]at V;have h0:=cE h;clear h;obtain⟨bx,Z,h⟩:=h0;simp only[real_guard]at h;rw[bZ]at h;refine⟨_,h.2,?_⟩;simp only[KV.down];rw[N.under_int U,vO.1 V.1];simp only;rw[eK];refine⟨V.2,?_⟩;rw[Z];simp only[yb,show bx.down.row=bx.row.down from rfl,pN];rw[eK];exact⟨h.1,rfl⟩
    ·cases h
   ·cases h
  ·cases h
 ·cases h
end
end Go.Ab
