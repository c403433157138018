import Derived.Test.YtjjjbgicidhpfaaDoorLib18
set_option linter.unusedVariables false
set_option linter.unusedSectionVars false
set_option linter.unusedSimpArgs false
namespace Go.Ab
variable [cS]
section
variable {P:Program} {R:Type} {r:R} {mem:aH} {tab:TypeId->Option TI}
def gJ(env:Nat->KV)(tmps:List AV):Prop:= ∀t,env t= .gone\/fD tmps t=some (env t).down/\iP (env t).down=false
theorem rA{v:KV}:iP v.down=true↔v= .gone:=by
 cases v with
 |tsl β ag T xs=>
  constructor
  ·intro h;have:=zJ ag T xs;simp only[KV.down]at h;cases H:eJ ag T xs with
   |agg _=>rw[H]at this;cases this
   |lit _=>rw[H]at h;cases β<;>cases h
   |ints _ _=>rw[H]at h;cases β<;>cases h
   |sl _ _=>rw[H]at h;cases β<;>cases h
  ·intro h;cases h
 |gone=>simp[KV.down,AV.goneV,iP]
 |dead=>simp[KV.down,AV.dead,iP]
 |unkB=>simp[KV.down,AV.unkB,iP]
 |_=>simp[KV.down,iP]
theorem Rl: ∀{l:List Value},AP l=true->Mm l=some (KV.downs (l.map .lit))
 | [],_=>rfl
 |v::l,h=>by
  simp only[AP,yc]at h;simp[Mm,guardB,h.1,Rl h.2,KV.downs,KV.down]
theorem OK{v:Value}(h:Ll v=true):BM v=some (Lx v).down:=by
 cases v<;>try rfl
 rename_i cs;simp only[Ll]at h;simp[BM,Lx,Rl h,KV.down]
theorem a8{env:Nat->KV}{tmps:List AV}(U:gJ env tmps){x:Operand}{k:KV->Option R}(h:f8 env x k=some r): ∃v,cN tmps x=some v.down/\k v=some r/\v≠ .gone:=by
 unfold f8 at h;split at h
 ·rename_i t;have ht:=U t;have K: ∀v,env t=v->v≠ .gone->k v=some r->∃v,cN tmps (.tmp t)=some v.down/\k v=some r/\v≠ .gone:=by
   intro v O M W;rcases ht with H|⟨H,N⟩
   ·exact absurd (O ▸ H) M
   ·rw[O]at H N;refine⟨v,?_,W,M⟩;simp only[cN,He,H,ya,N,yg]
  split at h
  ·cases h
  ·rename_i J;exact K _ rfl (λe=>J e) h
 ·rename_i c;rw[cJ]at h;refine⟨_,OK h.1,h.2,?_⟩;cases c<;>simp[Lx]
 ·exact⟨_,rfl,h,by simp⟩
 ·rename_i g;split at h
  ·rename_i q V;exact⟨_,by simp only[cN,V];rfl,h,by simp⟩
  ·cases h
theorem nJ{env:Nat->KV}{tmps:List AV}(K:gJ env tmps): ∀{xs:List Operand} {k:List KV->Option R},w8 env xs k=some r->∃vs,qT (cN tmps) xs=some (KV.downs vs)/\k vs=some r/\∀v∈vs,v≠ .gone
 | [],k,h=>⟨[],rfl,h,by simp⟩
 |x::xs,k,h=>by
  simp only[w8]at h;obtain⟨v,N,h,M⟩:=a8 K h;obtain⟨vs,H,h,J⟩:=nJ K h;exact⟨v::vs,by simp[qT,N,H,KV.downs],h,by simpa using⟨M,J⟩⟩
noncomputable def nH(ps:List (Nat×KV)):List (Nat×AV):=ps.map λq=>(q.1,q.2.down)
theorem wL{env:Nat->KV}{tmps:List AV}(J:gJ env tmps): ∀{xs:List (Nat×Operand)} {k:List (Nat×KV)->Option R},FN env xs k=some r->∃ps,m8 (cN tmps) xs=some (nH ps)/\k ps=some r
 | [],k,h=>⟨[],rfl,h⟩
 |(i,x)::xs,k,h=>by
  simp only[FN]at h;obtain⟨v,K,h,hg⟩:=a8 J h;obtain⟨vs,H,h⟩:=wL J h;exact⟨(i,v)::vs,by simp[m8,K,H,nH],h⟩
theorem s5{env:Nat->KV}{tmps:List AV}(H:gJ env tmps){x:Option Operand}{k:Option Int->Option R}(h:Nm env x k=some r): ∃i,CI (cN tmps) x=some i/\k i=some r:=by
 cases x with
 |none=>exact⟨none,rfl,h⟩
 |some x=>
  simp only[Nm]at h;obtain⟨v,J,h,hg⟩:=a8 H h;split at h
  ·rename_i kd n;exact⟨some n,by simp[CI,J,KV.down,QE],h⟩
  ·cases h
theorem IP(ht:b9 P tab){s:TypeId}{f:Nat}{k:Nat->Nat->TypeId->Option R}(h:LH tab s f k=some r): ∃off n t,oJ P s f=some (off,n,t)/\k off n t=some r:=by
 unfold LH at h;split at h
 ·rename_i ti O;split at h
  ·rename_i fs W;obtain⟨l,V,hc⟩:=(cH.of (ht _ _ O)).under_st W;split at h
   ·rename_i q J;rw[cJ]at h;obtain⟨U,h⟩:=h;obtain⟨H,hf,N,K,M⟩:=chkFs_get hc (by rw[<-bH];exact J);refine⟨_,_,_,?_,h⟩;unfold oJ;rw[V];simp only;rw[<-yx1,hf];rw[K]at M;simp only[ya,N,K,M];rw[e9];exact⟨U,rfl⟩
   ·cases h
  ·cases h
 ·cases h
 where
 chkFs_get: ∀{fs:List (Nat×Nat×TypeId)} {l:List Field} {f:Nat} {q:Nat×Nat×TypeId},Gm P fs l=true->fs[f]?=some q->∃H,l[f]?=some H/\H.offset=q.1/\H.type=q.2.2/\k8 P H.type=some q.2.1
  |q0::fs,H::l,0,q,hc,J=>by
   simp only[Gm,yc]at hc;obtain rfl:=yb J;refine⟨H,rfl,(nb.1 hc.1.1.1).symm,(nb.1 hc.1.1.2).symm,?_⟩;have:=hc.1.2;split at this
   ·rename_i n hn;rw[hn,nb.1 this]
   ·cases this
  |q0::fs,H::l,f+1,q,hc,J=>by
   simp only[Gm,yc]at hc;exact chkFs_get (fs:=fs) (l:=l) hc.2 (by simpa using J)
  | [],_,f,q,_,J=>by simp at J
  |_::_,[],f,q,hc,_=>by cases hc
theorem Fk{H:Nat->Option (Nat×Nat)}: ∀{ps:List (Nat×KV)} {cs J:List KV},GP H cs ps=some J->GW H (KV.downs cs) (nH ps)=some (KV.downs J)
 | [],cs,J,h=>by simp only[GP,Option.some.injEq]at h;subst h;rfl
 |(i,v)::ps,cs,J,h=>by
  simp only[GP]at h;split at h
  ·rename_i q N;rw[cJ]at h;obtain⟨M,h⟩:=h;have K:=Fk h;rw[z4]at K;simp only[nH,yl2,GW,N,ya,e9,fE,aN];exact⟨M,K⟩
  ·cases h
theorem Gc: ∀{fs:List (Nat×Nat×TypeId)} {l:List Field},Gm P fs l=true->places? P l=some (fs.map λq=>(q.1,q.2.1))
 | [],[],_=>rfl
 |q::fs,f::l,h=>by
  simp only[Gm,yc]at h;have J:=nb.1 h.1.1.1;have H:=h.1.2;split at H
  ·rename_i n hn;simp[places?,hn,Gc h.2,J,nb.1 H]
  ·cases H
 | [],_::_,h=>by cases h
 |_::_,[],h=>by cases h
theorem Pm(ht:b9 P tab){t:TypeId}{ps:List (Nat×KV)}{k:bK->Option R}(h:(match tab t with
  |some K=>
   (match K.tk with
   | .st fs=>(match GP (λi=>match fD fs i with|some q=>some (q.1,q.2.1)|none=>none) (fW K).cells ps with|some cs=>k (jB (.agg cs))|none=>none)
   | .arr _ e=>(match tab e with|some V=>(match GP (λi=>some (i*V.n,V.n)) (fW K).cells ps with|some cs=>k (jB (.agg cs))|none=>none)|none=>none)
   |_=>none)
  |none=>none)=some r): ∃v,FF P t (nH ps)=some v.down/\k (jB v)=some r:=by
 split at h
 ·rename_i K N;have H:=cH.of (ht _ _ N);have Y:=H.zero_eq.1;split at h
  ·rename_i fs W;obtain⟨l,O,hc⟩:=H.under_st W;split at h
   ·rename_i cs J;refine⟨.agg cs,?_,h⟩;have:=Fk J;unfold FF;rw[Y,O];simp only[ya,Gc hc];rw[(zeroCells H).1];rw[show(λi=>(fs.map λq=>(q.1,q.2.1))[i]?)=(λi=>match fD fs i with|some q=>some (q.1,q.2.1)|none=>none)from ?_,this]
    ·rfl
    ·funext i;rw[bH,yh1];cases fs[i]?<;>rfl
   ·cases h
  ·rename_i n e W;have O:=H.under_arr W;split at h
   ·rename_i V U;have M:=cH.of (ht _ _ U);split at h
    ·rename_i cs J;refine⟨.agg cs,?_,h⟩;have:=Fk J;unfold FF;rw[Y,O];simp only[ya,M.n];rw[(zeroCells H).1,this];rfl
    ·cases h
   ·cases h
  ·cases h
 ·cases h
theorem Sj{c a b:KV}{k:KV->Option R}(h:Ti (aZ R) c a b k=some r): ∃v,Ku c.down a.down b.down=some v.down/\k v=some r:=by
 unfold Ti at h;split at h
 ·rename_i t;split at h
  ·rename_i x y;exact⟨_,rfl,h⟩
  ·rename_i H;simp only[real_ite]at h;have M:Ku (.lit (.bool t)) a.down b.down=(bif t then some a.down else some b.down):=by
    unfold Ku;simp only;split
    ·rename_i x y K J;exfalso;cases a<;>simp[KV.down,AV.dead,AV.goneV,AV.unkB]at K;cases b<;>simp[KV.down,AV.dead,AV.goneV,AV.unkB]at J;subst K;subst J;exact H _ _ rfl rfl
    ·rfl
   cases t with
   |true=>exact⟨a,by rw[show KV.down (.lit (.bool true))= .lit (.bool true)from rfl,M];rfl,h⟩
   |false=>exact⟨b,by rw[show KV.down (.lit (.bool false))= .lit (.bool false)from rfl,M];rfl,h⟩
 ·cases h
theorem Jl(ht:b9 P tab){t V:TypeId}{W:TI}(N:tab t=some W)(Z:W.tk= .sl V){J:TI}{T:Ty}(O:tab V=some J)(hT:J.ty=some T):
  wY P t=some (eJ J.ag T [])/\MH (eJ J.ag T [])=some (KRow.ts false J.ag T []).down:=by
 have U:=cH.of (ht _ _ N);have H:=cH.of (ht _ _ O);have Y:=U.under_sl Z;unfold wY elemOf?;rw[Y];simp only[ya];cases M:bD J.ag T with
 |true=>
  obtain⟨K,kk,rfl⟩:=aS.1 M;rw[(H.intKind hT K).1,K];exact⟨rfl,rfl⟩
 |false=>
  rw[H.intKind_none hT M,cO M,KRow.down_sl M];have hn:=(H.ty T hT).2.1;simp only[H.n,ya,hn,yf4,MH,and_true];rw[e9];exact⟨nl.2 (by rw[<-hn];exact Ty.size_pos),rfl⟩
theorem Kv(ht:b9 P tab){boxed vars:Bool}{t:TypeId}{rs:Nat}{env:Nat->KV}{tmps:List AV}(V:gJ env tmps){x:Operand}{k:bK->Option R}(h:Rf tab boxed vars t rs env x k=some r):
  ∃out,k out=some r/\zX P boxed vars (cN tmps) t rs x=some out.down:=by
 unfold Rf at h;unfold zX;cases hc:l9 x&&boxed&&!vars with
 |true=>
  rw[hc]at h;simp only[yh]at h⊢
  split at h
  ·rename_i Y H;split at h
   ·rename_i W O;obtain⟨te,T,J,hT,h⟩:=sE ht h;obtain⟨M,U⟩:=Jl ht H O J hT;refine⟨_,h,?_⟩;rw[M];simp only[ya,U,yl];rfl
   ·cases h
  ·cases h
 |false=>
  rw[hc]at h;simp only[yg]at h⊢
  obtain⟨v,Z,h,hg⟩:=a8 V h;rw[Z];simp only[ya];split at h
  ·cases boxed with
   |true=>simp only[yh]at h;exact⟨_,h,rfl⟩
   |false=>
    simp only[yg]at h;split at h
    ·rename_i Y H;split at h
     ·rename_i W O;obtain⟨te,T,J,hT,h⟩:=sE ht h;obtain⟨M,U⟩:=Jl ht H O J hT;refine⟨_,h,?_⟩;simp only[KV.down,yg,M,yl];rfl
     ·cases h
    ·cases h
  ·rename_i K;refine⟨_,h,?_⟩
   have: ∀w,w=v.down->(match w with
    | .lit (.slice none 0 0)=>bif boxed then some ({v:=w}:dY)else(wY P t).map λp=>{v:= .imm false p}
    |w=>some {v:=w})=some (jB v).down:=by
    intro w N;split
    ·exfalso;cases v<;>simp[KV.down,AV.dead,AV.goneV,AV.unkB]at N;subst N;exact K rfl
    ·rw[N];rfl
   exact this _ rfl
theorem Nw(ht:b9 P tab){t:TypeId}{x ix:KV}{k:bK->Option R}{ρ:Operand->Option AV}{Y oi:Operand}(hx:ρ Y=some x.down)(hi:ρ oi=some ix.down)(h:Lg (aZ R) tab t x ix k=some r):
  ∃out,k out=some r/\sM P ρ t Y oi=some out.down:=by
 unfold sM;rw[hx,hi];simp only[ya];unfold Lg at h;split at h
 ·rename_i cs kd i;split at h
  ·rename_i ti H;have J:=cH.of (ht _ _ H);split at h
   ·rename_i n e W;have O:=J.under_arr W;split at h
    ·rename_i te U;have K:=cH.of (ht _ _ U);rw[cJ]at h;obtain⟨N,h⟩:=h;simp only[yc,yx]at N;have M:=nb.1 N.2;simp only[real_guard]at h;rw[cJ]at h;obtain⟨V,h⟩:=h;obtain⟨v,_,Z,h⟩:=IX h;rw[Nat.sub_zero]at Z;refine⟨_,h,?_⟩;have ha:=K.ag;rw[N.1]at ha;simp only[KV.down,O,ha,ya,K.n,M];rw[e9];refine⟨?_,by rw[pR Z];rfl⟩;simp only[yc]at V⊢
     exact⟨⟨⟨rfl,rfl⟩,V.1⟩,V.2⟩
    ·cases h
   ·cases h
  ·cases h
 ·rename_i s kd i;split at h
  ·rename_i ti H;have J:=cH.of (ht _ _ H);split at h
   ·rename_i W;have O:=J.under_str W;simp only[real_get]at h;rw[Hx]at h;obtain⟨n,hn,h⟩:=h;refine⟨_,h,?_⟩;simp only[KV.down,O,hn,yl];rfl
   ·cases h
  ·cases h
 ·cases h
theorem AW{boxed:Bool}{rs:Nat}{row:KRow}{rd:List Nat}{wr:List (Nat×dW)}{k:bK->Option R}(h:Kn boxed rs row rd wr k=some r):
  ∃v w,k ⟨v,rd,wr++w,[]⟩=some r/\w9 boxed rs row.view=some {v:=v.down,wr:=w.map λq=>(q.1,q.2.down)}:=by
 unfold Kn at h;cases boxed with
 |true=>
  simp only[yh]at h;cases H:kJ row with
  |true=>rw[H]at h;cases h
  |false=>
   rw[H]at h;exact⟨_,_,h,by simp[w9,KV.down,dW.down,Ii _ H]⟩
 |false=>
  simp only[yg]at h;split at h
  ·exact⟨_,[],by simpa using h,by simp only[w9,yg,Tg];rfl⟩
  ·cases h
theorem zP: ∀(ps:List (Nat×KV)) (vs:List KV),KV.downs (wU vs ps)=qN (KV.downs vs) (nH ps)
 | [],vs=>rfl
 |(i,v)::ps,vs=>by simp only[wU,nH,yl2,qN,eS,zP ps,AM]
theorem v7{e:Nat}: ∀{vs:List KV},s0 e vs=true->pK e (KV.downs vs)=true
 | [],_=>rfl
 |v::vs,h=>by
  simp only[s0,yc]at h;simp only[KV.downs,pK,yc,fE,aN];exact⟨h.1,v7 h.2⟩
theorem vH{n:Nat}: ∀{ps:List (Nat×KV)},y4 n ps=true->rJ n (nH ps)=true
 | [],_=>rfl
 |(i,v)::ps,h=>by
  simp only[y4,yc]at h;simp only[nH,yl2,rJ,yc];exact⟨h.1,vH h.2⟩
theorem rT: ∀{vs:List KV},jD (KV.downs vs)=KV.downs (nD vs)
 | []=>rfl
 |v::vs=>by simp only[KV.downs,jD,nD,rT,fE];simp[dD]
theorem KT(n:Nat)(v:KV):KV.downs (List.replicate n v)=List.replicate n v.down:=by simp[dD]
theorem G5(ht:b9 P tab){boxed vars:Bool}{env:Nat->KV}{tmps:List AV}(he:gJ env tmps){rs:Nat}{t:TypeId}{len:Nat}{J:Array (Nat×Operand)}{k:bK->Option R}
  (h:z9 (aZ R) tab boxed vars env mem rs t len J k=some r): ∃out,k out=some r/\iA P boxed vars (cN tmps) (aD mem) rs t len J=some out.down:=by
 unfold z9 at h;have U:=iK ht h;clear h;obtain⟨V,K,het,hte,h,hu⟩:=U;have H:=cH.of (ht _ _ hte);have U:=wL he h;clear h;obtain⟨ps,hps,h⟩:=U;simp only at h;rw[cJ]at h;obtain⟨hg,h⟩:=h;simp only[yc]at hg;obtain⟨⟨⟨⟨⟨g1,g2⟩,g3⟩,g4⟩,g5⟩,g6⟩:=hg;have O: ∀{wv:aP×List Nat} {o:dY} {out:bK},p6 P vars (aD mem) V (KV.downs (wU (List.replicate len (fW K)) ps))=some wv->wv.1.e=K.n->w9 (boxed||Nat.beq len 0) rs wv.1=some o->
   ({v:=o.v,rd:=wv.2,wr:=cM (aD mem) wv.2++o.wr}:dY)=out.down->iA P boxed vars (cN tmps) (aD mem) rs t len J=some out.down:=by
  intro wv o out h1 h2 h3 h4;unfold iA;rw[het];simp only[ya,H.zero_eq.1,H.n,hps];rw[e9];constructor
  ·simp only[yc];refine⟨⟨⟨⟨vH g1,g2⟩,g3⟩,g4⟩,?_⟩
   have:(fW K).down::(nH ps).map (·.2)=KV.downs (fW K::ps.map (·.2)):=by simp[KV.downs,nH,dD]
   rw[this];exact v7 g5
  ·rw[<-KT,<-zP,h1];simp only[ya];rw[e9];exact⟨nb.2 h2,by rw[h3,<-h4];rfl⟩
 split at h
 ·rename_i kd W;rw[cJ]at h;obtain⟨hn1,h⟩:=h;split at h
  ·rename_i xs hxs;obtain⟨v,w,h,hm⟩:=AW h;refine⟨_,h,O (wv:=(.ints kd xs,[])) ?_ (nb.1 hn1).symm hm ?_⟩
   ·unfold p6;have:intKind? P V=some kd:=by unfold intKind?;rw[H.under_int W]
    rw[this];simp only[D7 hxs,yl]
   ·simp[bK.down,aD,cM]
  ·cases h
 ·rename_i hnk;have M:intKind? P V=none:=by
   have N:=H.tk;unfold intKind?;cases hu2:P.underlying V with
   |none=>rfl
   |some d=>
    cases d with
    |int kk=>
     exfalso;unfold qU at N;rw[hu2]at N;cases W:K.tk with
     |int k2=>exact hnk k2 W
     |_=>rw[W]at N;cases N
    |_=>rfl
  cases vars with
  |true=>
   simp only[yh]at h;rw[cJ]at h;obtain⟨h1,h⟩:=h;obtain⟨v,w,h,hm⟩:=AW h;refine⟨_,h,O (wv:=((KRow.cells K.n (nD (wU (List.replicate len (fW K)) ps))).view,[])) ?_ rfl hm (by simp[bK.down,aD,cM])⟩;unfold p6;rw[M];simp only[H.n,ya,yh];rw[e9];simp only[yc,rT];exact⟨⟨⟨v7 g6,g3⟩,gC h1⟩,rfl⟩
  |false=>
   simp only[yg]at h;split at h
   ·rename_i T hT;have U:=Gz H hT h;clear h;obtain⟨xs,β,l,h,Y⟩:=U;obtain⟨v,w,h,hm⟩:=AW h;have hni:bD K.ag T=false:=by
     cases hi:bD K.ag T with
     |false=>rfl
     |true=>
      obtain⟨Z,kk,rfl⟩:=aS.1 hi;rw[(H.intKind hT Z).1]at M;cases M
    refine⟨_,h,O (wv:=((KRow.ts β K.ag T xs).view,l)) ?_ (by rw[Ln];exact(H.ty T hT).2.1) hm ?_⟩
    ·unfold p6;rw[M];simp only[H.n,ya,yg,Y,yl];rw[KRow.view_sl hni,(H.ty T hT).2.1]
    ·simp only[bK.down,yv3,zI];simp[aD]
   ·cases h
theorem H8(ht:b9 P tab){boxed:Bool}{rs:Nat}{t:TypeId}{l c:KV}{k:bK->Option R}{ρ:Operand->Option AV}{ol oc:Operand}(hl:ρ ol=some l.down)(hc:ρ oc=some c.down)
  (h:Cp (aZ R) tab boxed mem t rs l c k=some r): ∃out,k out=some r/\En P boxed ρ (aD mem) rs t ol oc=some out.down:=by
 unfold Cp at h;have h0:=iK ht h;clear h;obtain⟨et,N,het,hte,h,hu⟩:=h0;have H:=cH.of (ht _ _ hte);unfold En;rw[het];simp only[ya,H.zero_eq.1,hl,hc];split at h
 ·rename_i k1 n k2 n';split at h
  ·rename_i T hT;rw[cJ]at h;obtain⟨hg,h⟩:=h;simp only[yc]at hg;obtain⟨⟨⟨g1,g2⟩,g3⟩,g4⟩:=hg;obtain⟨⟨ls,hls,K⟩,hn,hag,hd⟩:=H.ty T hT;have h0:=pS K hd h;clear h;obtain⟨z,β,ids,h,hz⟩:=h0;cases he:gV ids with
   |false=>rw[he]at h;cases h
   |true=>
    rw[he]at h;simp only[yf1,yg,real_guard]at h;rw[cJ]at h;obtain⟨hb,h⟩:=h;obtain⟨v,w,h,hm⟩:=AW h;refine⟨_,h,?_⟩;simp only[KV.down];rw[e9];refine⟨hb,?_⟩;have Y:(fW N).down.cells=KV.downs (N.zero.map .lit):=by rw[(zeroCells H).1,(zeroCells H).2.1]
    have htp:yQ P (aD mem) et (fW N).down=some (β,c9 N.ag T z,ids):=by
     unfold yQ;rw[hls,ya,Y,hz];simp only[ya,sW H.ag hag,yl]
    have ho:(w9 boxed rs (KRow.ts β N.ag T (List.replicate n.toNat z)).view)=some (bK.mk v [] ([]++w) []).down:=by
     rw[hm];simp[bK.down,aD]
    cases hi:bD N.ag T with
    |true=>
     obtain⟨M,V,rfl⟩:=aS.1 hi;rw[(H.intKind hT M).1];have hn1:N.n=1:=(hn:1=N.n).symm;simp only[H.n,H.bytes,ya];have U: ∃zi:Int,gP V [(fW N).down]=some [zi]/\(zi:den (.int V))=z:=by
      obtain⟨_,_,h3⟩:=H.zero_eq;obtain⟨v0,hv0,hzk⟩:=h3 M;rw[hzk];rw[hv0]at hz;have J:cP (lS P (aD mem)) ls [AV.lit v0]=some (β,[.lit (.int V z)],ids):=hz;have W:ls= [.int V]:=by
       simp only[bE]at K;split at K
       ·rw[yR.1 K]
       ·cases K
      rw[W]at J;simp only[cP,Hx]at J;obtain⟨a,O,b,hb',J⟩:=J;obtain rfl:=yb hb';simp only[Option.some.injEq,Prod.mk.injEq,List.cons.injEq,and_true]at J;replace O:bM P (aD mem) 6 (.int V) (.lit v0)=some a:=O;cases v0<;>simp only[bM]at O<;>first|cases O|skip
      rename_i k3 n3;rw[e9]at O;obtain⟨Z,O⟩:=O;obtain rfl:=yb O;obtain rfl:=yR.1 Z;simp only[PV.lit.injEq,Value.int.injEq,true_and]at J;exact⟨n3,by simp[KV.down,gP,yR.2],(Value.int.inj J.2.1).2⟩
     obtain⟨zi,U,rfl⟩:=U;rw[U];simp only[ya,List.headD_cons];rw[e9];refine⟨by simp only[yc];exact⟨nb.2 hn1,g2⟩,?_⟩;rw[<-ho,M];rfl
    |false=>
     rw[H.intKind_none hT hi,htp];simp only[ya,H.n,H.bytes];rw[e9];refine⟨?_,?_⟩
     ·simp only[yc];exact⟨⟨⟨g1,g2⟩,by rw[Y,aN,ym1];exact g4⟩,he⟩
     ·rw[<-ho,KRow.view_sl hi,List.map_replicate,hn]
  ·cases h
 ·cases h
theorem Lu(ht:b9 P tab){boxed:Bool}{W dst:TypeId}{rs:Nat}{x:KV}{k:bK->Option R}(h:IS (aZ R) tab boxed W dst mem rs x k=some r):
  ∃out,k out=some r/\n8 P boxed W dst (aD mem) rs x.down=some out.down:=by
 unfold IS at h;split at h
 ·rename_i s d hs hd;have M:=cH.of (ht _ _ hs);have N:=cH.of (ht _ _ hd);unfold n8;split at h
  ·rename_i k1 kd H J;split at h
   ·rename_i n;refine⟨_,h,?_⟩;rw[M.under_int H,N.under_int J];rfl
   ·cases h
  ·rename_i H J;split at h
   ·refine⟨_,h,?_⟩;rw[M.under_str H,N.under_str J];rfl
   ·cases h
  ·rename_i e H J;rw[M.under_sl H,N.under_str J];split at h
   ·rename_i te U;have K:=cH.of (ht _ _ U);split at h
    ·rename_i ke O;rw[cJ]at h;obtain⟨V,h⟩:=h;simp only[yc]at V;obtain⟨⟨g1,g2⟩,g3⟩:=V;have Z:=FX ht h;clear h;obtain⟨row,rd,h,hv⟩:=Z;split at h
     ·rename_i β ag ke' xs;rw[cJ]at h;obtain⟨Y,h⟩:=h;simp only[yc,yx]at Y;obtain⟨g4,rfl⟩:=Y;refine⟨_,h,?_⟩;simp only;rw[K.under_int O,yR.1 g1];simp only[hv,ya,K.n,nb.1 g2];rw[e9];refine⟨by simp only[ya4];exact Cx ht g3,?_⟩;obtain rfl:=yR.1 g4;rfl
     ·cases h
    ·cases h
   ·cases h
  ·rename_i e0 e H J;rw[M.under_sl H,N.under_sl J];split at h
   ·rename_i te b g U;have K:=cH.of (ht _ _ U);split at h
    ·rename_i ke O;rw[cJ]at h;obtain⟨V,h⟩:=h;simp only[yc]at V;have Z:=cR h;clear h;obtain⟨bx,hbx,h⟩:=Z;simp only[real_guard]at h;rw[cJ]at h;refine⟨_,h.2,?_⟩;simp only[KV.down];rw[K.under_int O,yR.1 V.1];simp only;rw[e9];refine⟨V.2,?_⟩;rw[hbx];simp only[ya,show bx.down.row=bx.row.down from rfl,rB];rw[e9];exact⟨h.1,rfl⟩
    ·cases h
   ·cases h
  ·cases h
 ·cases h
end
end Go.Ab
