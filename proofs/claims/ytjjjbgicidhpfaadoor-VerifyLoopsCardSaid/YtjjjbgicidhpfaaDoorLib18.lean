import Derived.Test.YtjjjbgicidhpfaaDoorLib17
set_option linter.unusedVariables false
set_option linter.unusedSectionVars false
set_option linter.unusedSimpArgs false
namespace Go.Ab
variable [b3]
section
variable {P:Program} {R:Type} {r:R} {mem:aE} {tab:TypeId->Option TI}
def eJ(env:Nat->KV)(tmps:List AV):Prop:= ∀t,env t= .gone\/dW tmps t=some (env t).down/\fB (env t).down=false
theorem mN{v:KV}:fB v.down=true↔v= .gone:=by
 cases v with
 |tsl β ag T xs=>
  constructor
  ·intro h;have:=r8 ag T xs;simp only[KV.down]at h;cases H:c8 ag T xs with
   |agg _=>rw[H]at this;cases this
   |lit _=>rw[H]at h;cases β<;>cases h
   |ints _ _=>rw[H]at h;cases β<;>cases h
   |sl _ _=>rw[H]at h;cases β<;>cases h
  ·intro h;cases h
 |gone=>simp[KV.down,AV.goneV,fB]
 |dead=>simp[KV.down,AV.dead,fB]
 |unkB=>simp[KV.down,AV.unkB,fB]
 |_=>simp[KV.down,fB]
theorem Lv: ∀{l:List Value},s5 l=true->G5 l=some (KV.downs (l.map .lit))
 | [],_=>rfl
 |v::l,h=>by
  simp only[s5,yb]at h;simp[G5,guardB,h.1,Lv h.2,KV.downs,KV.down]
theorem Iv{v:Value}(h:Hy v=true):vS v=some (Hq v).down:=by
 cases v<;>try rfl
 rename_i cs;simp only[Hy]at h;simp[vS,Hq,Lv h,KV.down]
theorem aS{env:Nat->KV}{tmps:List AV}(O:eJ env tmps){x:Operand}{k:KV->Option R}(h:eB env x k=some r): ∃v,bW tmps x=some v.down/\k v=some r/\v≠ .gone:=by
 unfold eB at h;split at h
 ·rename_i t;have ht:=O t;have I: ∀v,env t=v->v≠ .gone->k v=some r->∃v,bW tmps (.tmp t)=some v.down/\k v=some r/\v≠ .gone:=by
   intro v N M V;rcases ht with H|⟨H,K⟩
   ·exact absurd (N ▸ H) M
   ·rw[N]at H K;refine⟨v,?_,V,M⟩;simp only[bW,Cg,H,ye,K,yj]
  split at h
  ·cases h
  ·rename_i J;exact I _ rfl (λe=>J e) h
 ·rename_i c;rw[bP]at h;refine⟨_,Iv h.1,h.2,?_⟩;cases c<;>simp[Hq]
 ·exact⟨_,rfl,h,by simp⟩
 ·rename_i g;split at h
  ·rename_i q U;exact⟨_,by simp only[bW,U];rfl,h,by simp⟩
  ·cases h
theorem jL{env:Nat->KV}{tmps:List AV}(J:eJ env tmps): ∀{xs:List Operand} {k:List KV->Option R},qE env xs k=some r->∃vs,mG (bW tmps) xs=some (KV.downs vs)/\k vs=some r/\∀v∈vs,v≠ .gone
 | [],k,h=>⟨[],rfl,h,by simp⟩
 |x::xs,k,h=>by
  simp only[qE]at h;obtain⟨v,K,h,M⟩:=aS J h;obtain⟨vs,I,h,H⟩:=jL J h;exact⟨v::vs,by simp[mG,K,I,KV.downs],h,by simpa using⟨M,H⟩⟩
noncomputable def jI(ps:List (Nat×KV)):List (Nat×AV):=ps.map λq=>(q.1,q.2.down)
theorem pW{env:Nat->KV}{tmps:List AV}(I:eJ env tmps): ∀{xs:List (Nat×Operand)} {k:List (Nat×KV)->Option R},AU env xs k=some r->∃ps,jC (bW tmps) xs=some (jI ps)/\k ps=some r
 | [],k,h=>⟨[],rfl,h⟩
 |(i,x)::xs,k,h=>by
  simp only[AU]at h;obtain⟨v,J,h,hg⟩:=aS I h;obtain⟨vs,H,h⟩:=pW I h;exact⟨(i,v)::vs,by simp[jC,J,H,jI],h⟩
theorem oF{env:Nat->KV}{tmps:List AV}(H:eJ env tmps){x:Option Operand}{k:Option Int->Option R}(h:IW env x k=some r): ∃i,z9 (bW tmps) x=some i/\k i=some r:=by
 cases x with
 |none=>exact⟨none,rfl,h⟩
 |some x=>
  simp only[IW]at h;obtain⟨v,I,h,hg⟩:=aS H h;split at h
  ·rename_i kd n;exact⟨some n,by simp[z9,I,KV.down,JM],h⟩
  ·cases h
theorem Dn(ht:bL P tab){s:TypeId}{f:Nat}{k:Nat->Nat->TypeId->Option R}(h:Hx tab s f k=some r): ∃off n t,kB P s f=some (off,n,t)/\k off n t=some r:=by
 unfold Hx at h;split at h
 ·rename_i ti O;split at h
  ·rename_i fs Y;obtain⟨l,V,H⟩:=(bT.of (ht _ _ O)).under_st Y;split at h
   ·rename_i q J;rw[bP]at h;obtain⟨U,h⟩:=h;obtain⟨I,W,N,M,K⟩:=chkFs_get H (by rw[<-a7];exact J);refine⟨_,_,_,?_,h⟩;unfold kB;rw[V];simp only;rw[<-yh1,W];rw[M]at K;simp only[ye,N,M,K];rw[dS];exact⟨U,rfl⟩
   ·cases h
  ·cases h
 ·cases h
 where
 chkFs_get: ∀{fs:List (Nat×Nat×TypeId)} {l:List Field} {f:Nat} {q:Nat×Nat×TypeId},Bt P fs l=true->fs[f]?=some q->∃I,l[f]?=some I/\I.offset=q.1/\I.type=q.2.2/\gW P I.type=some q.2.1
  |q0::fs,I::l,0,q,H,J=>by
   simp only[Bt,yb]at H;obtain rfl:=ya J;refine⟨I,rfl,(nb.1 H.1.1.1).symm,(nb.1 H.1.1.2).symm,?_⟩;have:=H.1.2;split at this
   ·rename_i n hn;rw[hn,nb.1 this]
   ·cases this
  |q0::fs,I::l,f+1,q,H,J=>by
   simp only[Bt,yb]at H;exact chkFs_get (fs:=fs) (l:=l) H.2 (by simpa using J)
  | [],_,f,q,_,J=>by simp at J
  |_::_,[],f,q,H,_=>by cases H
theorem Bi{H:Nat->Option (Nat×Nat)}: ∀{ps:List (Nat×KV)} {cs I:List KV},Cc H cs ps=some I->BM H (KV.downs cs) (jI ps)=some (KV.downs I)
 | [],cs,I,h=>by simp only[Cc,Option.some.injEq]at h;subst h;rfl
 |(i,v)::ps,cs,I,h=>by
  simp only[Cc]at h;split at h
  ·rename_i q K;rw[bP]at h;obtain⟨M,h⟩:=h;have J:=Bi h;rw[rX]at J;simp only[jI,yt1,BM,K,ye,dS,dU,aJ];exact⟨M,J⟩
  ·cases h
theorem Br: ∀{fs:List (Nat×Nat×TypeId)} {l:List Field},Bt P fs l=true->places? P l=some (fs.map λq=>(q.1,q.2.1))
 | [],[],_=>rfl
 |q::fs,f::l,h=>by
  simp only[Bt,yb]at h;have I:=nb.1 h.1.1.1;have H:=h.1.2;split at H
  ·rename_i n hn;simp[places?,hn,Br h.2,I,nb.1 H]
  ·cases H
 | [],_::_,h=>by cases h
 |_::_,[],h=>by cases h
theorem JV(ht:bL P tab){t:TypeId}{ps:List (Nat×KV)}{k:a9->Option R}(h:(match tab t with
  |some J=>
   (match J.tk with
   | .st fs=>(match Cc (λi=>match dW fs i with|some q=>some (q.1,q.2.1)|none=>none) (d7 J).cells ps with|some cs=>k (fK (.agg cs))|none=>none)
   | .arr _ e=>(match tab e with|some O=>(match Cc (λi=>some (i*O.n,O.n)) (d7 J).cells ps with|some cs=>k (fK (.agg cs))|none=>none)|none=>none)
   |_=>none)
  |none=>none)=some r): ∃v,AL P t (jI ps)=some v.down/\k (fK v)=some r:=by
 split at h
 ·rename_i J U;have H:=bT.of (ht _ _ U);have W:=H.zero_eq.1;split at h
  ·rename_i fs V;obtain⟨l,M,Y⟩:=H.under_st V;split at h
   ·rename_i cs I;refine⟨.agg cs,?_,h⟩;have:=Bi I;unfold AL;rw[W,M];simp only[ye,Br Y];rw[(zeroCells H).1];rw[show(λi=>(fs.map λq=>(q.1,q.2.1))[i]?)=(λi=>match dW fs i with|some q=>some (q.1,q.2.1)|none=>none)from ?_,this]
    ·rfl
    ·funext i;rw[a7,yc1];cases fs[i]?<;>rfl
   ·cases h
  ·rename_i n e V;have M:=H.under_arr V;split at h
   ·rename_i O K;have N:=bT.of (ht _ _ K);split at h
    ·rename_i cs I;refine⟨.agg cs,?_,h⟩;have:=Bi I;unfold AL;rw[W,M];simp only[ye,N.n];rw[(zeroCells H).1,this];rfl
    ·cases h
   ·cases h
  ·cases h
 ·cases h
theorem Mp{c a b:KV}{k:KV->Option R}(h:M5 (aQ R) c a b k=some r): ∃v,FJ c.down a.down b.down=some v.down/\k v=some r:=by
 unfold M5 at h;split at h
 ·rename_i t;split at h
  ·rename_i x y;exact⟨_,rfl,h⟩
  ·rename_i H;simp only[real_ite]at h;have K:FJ (.lit (.bool t)) a.down b.down=(bif t then some a.down else some b.down):=by
    unfold FJ;simp only;split
    ·rename_i x y I J;exfalso;cases a<;>simp[KV.down,AV.dead,AV.goneV,AV.unkB]at I;cases b<;>simp[KV.down,AV.dead,AV.goneV,AV.unkB]at J;subst I;subst J;exact H _ _ rfl rfl
    ·rfl
   cases t with
   |true=>exact⟨a,by rw[show KV.down (.lit (.bool true))= .lit (.bool true)from rfl,K];rfl,h⟩
   |false=>exact⟨b,by rw[show KV.down (.lit (.bool false))= .lit (.bool false)from rfl,K];rfl,h⟩
 ·cases h
theorem E2(ht:bL P tab){t U:TypeId}{V:TI}(O:tab t=some V)(W:V.tk= .sl U){I:TI}{T:Ty}(N:tab U=some I)(hT:I.ty=some T):
  oV P t=some (c8 I.ag T [])/\Ha (c8 I.ag T [])=some (KRow.ts false I.ag T []).down:=by
 have M:=bT.of (ht _ _ O);have H:=bT.of (ht _ _ N);have Y:=M.under_sl W;unfold oV elemOf?;rw[Y];simp only[ye];cases K:aY I.ag T with
 |true=>
  obtain⟨J,kk,rfl⟩:=aN.1 K;rw[(H.intKind hT J).1,J];exact⟨rfl,rfl⟩
 |false=>
  rw[H.intKind_none hT K,bU K,KRow.down_sl K];have hn:=(H.ty T hT).2.1;simp only[H.n,ye,hn,yi3,Ha,and_true];rw[dS];exact⟨nl.2 (by rw[<-hn];exact Ty.size_pos),rfl⟩
theorem Gm(ht:bL P tab){boxed vars:Bool}{t:TypeId}{rs:Nat}{env:Nat->KV}{tmps:List AV}(V:eJ env tmps){x:Operand}{k:a9->Option R}(h:K8 tab boxed vars t rs env x k=some r):
  ∃out,k out=some r/\q7 P boxed vars (bW tmps) t rs x=some out.down:=by
 unfold K8 at h;unfold q7;cases U:iS x&&boxed&&!vars with
 |true=>
  rw[U]at h;simp only[yl]at h⊢
  split at h
  ·rename_i ti I;split at h
   ·rename_i Y K;obtain⟨W,T,H,hT,h⟩:=nF ht h;obtain⟨J,O⟩:=E2 ht I K H hT;refine⟨_,h,?_⟩;rw[J];simp only[ye,O,yh];rfl
   ·cases h
  ·cases h
 |false=>
  rw[U]at h;simp only[yj]at h⊢
  obtain⟨v,Z,h,hg⟩:=aS V h;rw[Z];simp only[ye];split at h
  ·cases boxed with
   |true=>simp only[yl]at h;exact⟨_,h,rfl⟩
   |false=>
    simp only[yj]at h;split at h
    ·rename_i ti I;split at h
     ·rename_i Y K;obtain⟨W,T,H,hT,h⟩:=nF ht h;obtain⟨J,O⟩:=E2 ht I K H hT;refine⟨_,h,?_⟩;simp only[KV.down,yj,J,yh];rfl
     ·cases h
    ·cases h
  ·rename_i N;refine⟨_,h,?_⟩;have: ∀w,w=v.down->(match w with
    | .lit (.slice none 0 0)=>bif boxed then some ({v:=w}:cU)else(oV P t).map λp=>{v:= .imm false p}
    |w=>some {v:=w})=some (fK v).down:=by
    intro w M;split
    ·exfalso;cases v<;>simp[KV.down,AV.dead,AV.goneV,AV.unkB]at M;subst M;exact N rfl
    ·rw[M];rfl
   exact this _ rfl
theorem H4(ht:bL P tab){t:TypeId}{x ix:KV}{k:a9->Option R}{ρ:Operand->Option AV}{Z Y:Operand}(hx:ρ Z=some x.down)(hi:ρ Y=some ix.down)(h:Hj (aQ R) tab t x ix k=some r):
  ∃out,k out=some r/\oL P ρ t Z Y=some out.down:=by
 unfold oL;rw[hx,hi];simp only[ye];unfold Hj at h;split at h
 ·rename_i cs kd i;split at h
  ·rename_i ti I;have H:=bT.of (ht _ _ I);split at h
   ·rename_i n e V;have N:=H.under_arr V;split at h
    ·rename_i te K;have J:=bT.of (ht _ _ K);rw[bP]at h;obtain⟨O,h⟩:=h;simp only[yb,yq]at O;have U:=nb.1 O.2;simp only[real_guard]at h;rw[bP]at h;obtain⟨M,h⟩:=h;obtain⟨v,_,hv,h⟩:=C9 h;rw[Nat.sub_zero]at hv;refine⟨_,h,?_⟩;have W:=J.ag;rw[O.1]at W;simp only[KV.down,N,W,ye,J.n,U];rw[dS];refine⟨?_,by rw[lJ hv];rfl⟩;simp only[yb]at M⊢
     exact⟨⟨⟨rfl,rfl⟩,M.1⟩,M.2⟩
    ·cases h
   ·cases h
  ·cases h
 ·rename_i s kd i;split at h
  ·rename_i ti I;have H:=bT.of (ht _ _ I);split at h
   ·rename_i V;have N:=H.under_str V;simp only[real_get]at h;rw[Cy]at h;obtain⟨n,hn,h⟩:=h;refine⟨_,h,?_⟩;simp only[KV.down,N,hn,yh];rfl
   ·cases h
  ·cases h
 ·cases h
theorem vF{boxed:Bool}{rs:Nat}{row:KRow}{rd:List Nat}{wr:List (Nat×cS)}{k:a9->Option R}(h:F8 boxed rs row rd wr k=some r):
  ∃v w,k ⟨v,rd,wr++w,[]⟩=some r/\qC boxed rs row.view=some {v:=v.down,wr:=w.map λq=>(q.1,q.2.down)}:=by
 unfold F8 at h;cases boxed with
 |true=>
  simp only[yl]at h;cases H:gI row with
  |true=>rw[H]at h;cases h
  |false=>
   rw[H]at h;exact⟨_,_,h,by simp[qC,KV.down,cS.down,Dk _ H]⟩
 |false=>
  simp only[yj]at h;split at h
  ·exact⟨_,[],by simpa using h,by simp only[qC,yj,MX];rfl⟩
  ·cases h
theorem qN: ∀(ps:List (Nat×KV)) (vs:List KV),KV.downs (pU vs ps)=lQ (KV.downs vs) (jI ps)
 | [],vs=>rfl
 |(i,v)::ps,vs=>by simp only[pU,jI,yt1,lQ,dE,qN ps,sP]
theorem pR{e:Nat}: ∀{vs:List KV},oQ e vs=true->lF e (KV.downs vs)=true
 | [],_=>rfl
 |v::vs,h=>by
  simp only[oQ,yb]at h;simp only[KV.downs,lF,yb,dU,aJ];exact⟨h.1,pR h.2⟩
theorem oZ{n:Nat}: ∀{ps:List (Nat×KV)},rQ n ps=true->mK n (jI ps)=true
 | [],_=>rfl
 |(i,v)::ps,h=>by
  simp only[rQ,yb]at h;simp only[jI,yt1,mK,yb];exact⟨h.1,oZ h.2⟩
theorem nN: ∀{vs:List KV},fU (KV.downs vs)=KV.downs (jB vs)
 | []=>rfl
 |v::vs=>by simp only[KV.downs,fU,jB,nN,dU];simp[cC]
theorem FQ(n:Nat)(v:KV):KV.downs (List.replicate n v)=List.replicate n v.down:=by simp[cC]
theorem Cn(ht:bL P tab){boxed vars:Bool}{env:Nat->KV}{tmps:List AV}(he:eJ env tmps){rs:Nat}{t:TypeId}{len:Nat}{I:Array (Nat×Operand)}{k:a9->Option R}
  (h:q5 (aQ R) tab boxed vars env mem rs t len I k=some r): ∃out,k out=some r/\e5 P boxed vars (bW tmps) (aB mem) rs t len I=some out.down:=by
 unfold q5 at h;have O:=e8 ht h;clear h;obtain⟨U,J,het,Y,h,hu⟩:=O;have H:=bT.of (ht _ _ Y);have O:=pW he h;clear h;obtain⟨ps,hps,h⟩:=O;simp only at h;rw[bP]at h;obtain⟨hg,h⟩:=h;simp only[yb]at hg;obtain⟨⟨⟨⟨⟨g1,g2⟩,g3⟩,g4⟩,g5⟩,g6⟩:=hg;have N: ∀{wv:aL×List Nat} {o:cU} {out:a9},mE P vars (aB mem) U (KV.downs (pU (List.replicate len (d7 J)) ps))=some wv->wv.1.e=J.n->qC (boxed||Nat.beq len 0) rs wv.1=some o->
   ({v:=o.v,rd:=wv.2,wr:=bV (aB mem) wv.2++o.wr}:cU)=out.down->e5 P boxed vars (bW tmps) (aB mem) rs t len I=some out.down:=by
  intro wv o out Z h2 h3 h4;unfold e5;rw[het];simp only[ye,H.zero_eq.1,H.n,hps];rw[dS];constructor
  ·simp only[yb];refine⟨⟨⟨⟨oZ g1,g2⟩,g3⟩,g4⟩,?_⟩;have:(d7 J).down::(jI ps).map (·.2)=KV.downs (d7 J::ps.map (·.2)):=by simp[KV.downs,jI,cC]
   rw[this];exact pR g5
  ·rw[<-FQ,<-qN,Z];simp only[ye];rw[dS];exact⟨nb.2 h2,by rw[h3,<-h4];rfl⟩
 split at h
 ·rename_i kd V;rw[bP]at h;obtain⟨hn1,h⟩:=h;split at h
  ·rename_i xs hxs;obtain⟨v,w,h,hm⟩:=vF h;refine⟨_,h,N (wv:=(.ints kd xs,[])) ?_ (nb.1 hn1).symm hm ?_⟩
   ·unfold mE;have:intKind? P U=some kd:=by unfold intKind?;rw[H.under_int V]
    rw[this];simp only[zB hxs,yh]
   ·simp[a9.down,aB,bV]
  ·cases h
 ·rename_i hnk;have K:intKind? P U=none:=by
   have M:=H.tk;unfold intKind?;cases hu2:P.underlying U with
   |none=>rfl
   |some d=>
    cases d with
    |int kk=>
     exfalso;unfold m9 at M;rw[hu2]at M;cases V:J.tk with
     |int k2=>exact hnk k2 V
     |_=>rw[V]at M;cases M
    |_=>rfl
  cases vars with
  |true=>
   simp only[yl]at h;rw[bP]at h;obtain⟨Z,h⟩:=h;obtain⟨v,w,h,hm⟩:=vF h;refine⟨_,h,N (wv:=((KRow.cells J.n (jB (pU (List.replicate len (d7 J)) ps))).view,[])) ?_ rfl hm (by simp[a9.down,aB,bV])⟩;unfold mE;rw[K];simp only[H.n,ye,yl];rw[dS];simp only[yb,nN];exact⟨⟨⟨pR g6,g3⟩,eG Z⟩,rfl⟩
  |false=>
   simp only[yj]at h;split at h
   ·rename_i T hT;have O:=Ca H hT h;clear h;obtain⟨xs,β,l,h,hfe⟩:=O;obtain⟨v,w,h,hm⟩:=vF h;have hni:aY J.ag T=false:=by
     cases hi:aY J.ag T with
     |false=>rfl
     |true=>
      obtain⟨W,kk,rfl⟩:=aN.1 hi;rw[(H.intKind hT W).1]at K;cases K
    refine⟨_,h,N (wv:=((KRow.ts β J.ag T xs).view,l)) ?_ (by rw[HB];exact(H.ty T hT).2.1) hm ?_⟩
    ·unfold mE;rw[K];simp only[H.n,ye,yj,hfe,yh];rw[KRow.view_sl hni,(H.ty T hT).2.1]
    ·simp only[a9.down,yg3,sL];simp[aB]
   ·cases h
theorem CG(ht:bL P tab){boxed:Bool}{rs:Nat}{t:TypeId}{l c:KV}{k:a9->Option R}{ρ:Operand->Option AV}{ol oc:Operand}(hl:ρ ol=some l.down)(hc:ρ oc=some c.down)
  (h:wS (aQ R) tab boxed mem t rs l c k=some r): ∃out,k out=some r/\AW P boxed ρ (aB mem) rs t ol oc=some out.down:=by
 unfold wS at h;have h0:=e8 ht h;clear h;obtain⟨et,M,het,hte,h,hu⟩:=h0;have H:=bT.of (ht _ _ hte);unfold AW;rw[het];simp only[ye,H.zero_eq.1,hl,hc];split at h
 ·rename_i k1 n k2 n';split at h
  ·rename_i T hT;rw[bP]at h;obtain⟨hg,h⟩:=h;simp only[yb]at hg;obtain⟨⟨⟨g1,g2⟩,g3⟩,g4⟩:=hg;obtain⟨⟨ls,hls,K⟩,hn,Z,hd⟩:=H.ty T hT;have h0:=lH K hd h;clear h;obtain⟨z,β,ids,h,hz⟩:=h0;cases he:eX ids with
   |false=>rw[he]at h;cases h
   |true=>
    rw[he]at h;simp only[Bool.not_true,yj,real_guard]at h;rw[bP]at h;obtain⟨hb,h⟩:=h;obtain⟨v,w,h,hm⟩:=vF h;refine⟨_,h,?_⟩;simp only[KV.down];rw[dS];refine⟨hb,?_⟩;have W:(d7 M).down.cells=KV.downs (M.zero.map .lit):=by rw[(zeroCells H).1,(zeroCells H).2.1]
    have htp:qH P (aB mem) et (d7 M).down=some (β,cF M.ag T z,ids):=by
     unfold qH;rw[hls,ye,W,hz];simp only[ye,oE H.ag Z,yh]
    have ho:(qC boxed rs (KRow.ts β M.ag T (List.replicate n.toNat z)).view)=some (a9.mk v [] ([]++w) []).down:=by
     rw[hm];simp[a9.down,aB]
    cases hi:aY M.ag T with
    |true=>
     obtain⟨J,V,rfl⟩:=aN.1 hi;rw[(H.intKind hT J).1];have hn1:M.n=1:=(hn:1=M.n).symm;simp only[H.n,H.bytes,ye];have O: ∃zi:Int,eM V [(d7 M).down]=some [zi]/\(zi:den (.int V))=z:=by
      obtain⟨_,_,h3⟩:=H.zero_eq;obtain⟨v0,hv0,hzk⟩:=h3 J;rw[hzk];rw[hv0]at hz;have I:bY (iI P (aB mem)) ls [AV.lit v0]=some (β,[.lit (.int V z)],ids):=hz;have U:ls= [.int V]:=by
       simp only[aZ]at K;split at K
       ·rw[qK.1 K]
       ·cases K
      rw[U]at I;simp only[bY,Cy]at I;obtain⟨a,N,b,hb',I⟩:=I;obtain rfl:=ya hb';simp only[Option.some.injEq,Prod.mk.injEq,List.cons.injEq,and_true]at I;replace N:bA P (aB mem) 6 (.int V) (.lit v0)=some a:=N;cases v0<;>simp only[bA]at N<;>first|cases N|skip
      rename_i k3 n3;rw[dS]at N;obtain⟨Y,N⟩:=N;obtain rfl:=ya N;obtain rfl:=qK.1 Y;simp only[PV.lit.injEq,Value.int.injEq,true_and]at I;exact⟨n3,by simp[KV.down,eM,qK.2],(Value.int.inj I.2.1).2⟩
     obtain⟨zi,O,rfl⟩:=O;rw[O];simp only[ye,List.headD_cons];rw[dS];refine⟨by simp only[yb];exact⟨nb.2 hn1,g2⟩,?_⟩;rw[<-ho,J];rfl
    |false=>
     rw[H.intKind_none hT hi,htp];simp only[ye,H.n,H.bytes];rw[dS];refine⟨?_,?_⟩
     ·simp only[yb];exact⟨⟨⟨g1,g2⟩,by rw[W,aJ,ye1];exact g4⟩,he⟩
     ·rw[<-ho,KRow.view_sl hi,List.map_replicate,hn]
  ·cases h
 ·cases h
theorem GQ(ht:bL P tab){boxed:Bool}{V dst:TypeId}{rs:Nat}{x:KV}{k:a9->Option R}(h:CO (aQ R) tab boxed V dst mem rs x k=some r):
  ∃out,k out=some r/\j7 P boxed V dst (aB mem) rs x.down=some out.down:=by
 unfold CO at h;split at h
 ·rename_i s d hs hd;have K:=bT.of (ht _ _ hs);have M:=bT.of (ht _ _ hd);unfold j7;split at h
  ·rename_i k1 kd H I;split at h
   ·rename_i n;refine⟨_,h,?_⟩;rw[K.under_int H,M.under_int I];rfl
   ·cases h
  ·rename_i H I;split at h
   ·refine⟨_,h,?_⟩;rw[K.under_str H,M.under_str I];rfl
   ·cases h
  ·rename_i e H I;rw[K.under_sl H,M.under_str I];split at h
   ·rename_i te N;have J:=bT.of (ht _ _ N);split at h
    ·rename_i ke O;rw[bP]at h;obtain⟨U,h⟩:=h;simp only[yb]at U;obtain⟨⟨g1,g2⟩,g3⟩:=U;have Y:=AP ht h;clear h;obtain⟨row,rd,h,hv⟩:=Y;split at h
     ·rename_i β ag ke' xs;rw[bP]at h;obtain⟨W,h⟩:=h;simp only[yb,yq]at W;obtain⟨g4,rfl⟩:=W;refine⟨_,h,?_⟩;simp only;rw[J.under_int O,qK.1 g1];simp only[hv,ye,J.n,nb.1 g2];rw[dS];refine⟨by simp only[yd3];exact wM ht g3,?_⟩;obtain rfl:=qK.1 g4;rfl
     ·cases h
    ·cases h
   ·cases h
  ·rename_i e0 e H I;rw[K.under_sl H,M.under_sl I];split at h
   ·rename_i te b g N;have J:=bT.of (ht _ _ N);split at h
    ·rename_i ke O;rw[bP]at h;obtain⟨U,h⟩:=h;simp only[yb]at U;have Y:=bZ h;clear h;obtain⟨bx,Z,h⟩:=Y;simp only[real_guard]at h;rw[bP]at h;refine⟨_,h.2,?_⟩;simp only[KV.down];rw[J.under_int O,qK.1 U.1];simp only;rw[dS];refine⟨U.2,?_⟩;rw[Z];simp only[ye,show bx.down.row=bx.row.down from rfl,mS];rw[dS];exact⟨h.1,rfl⟩
    ·cases h
   ·cases h
  ·cases h
 ·cases h
end
end Go.Ab
