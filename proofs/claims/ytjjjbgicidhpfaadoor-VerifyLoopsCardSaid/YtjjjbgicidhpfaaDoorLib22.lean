import Derived.Test.YtjjjbgicidhpfaaDoorLib21
set_option linter.unusedVariables false
set_option linter.unusedSectionVars false
set_option linter.unusedSimpArgs false
namespace Go.Ab
variable [b3]
section
variable {P:Program} {R R1:Type} {r:R} {r1:R1} {mem:aE} {tab:TypeId->Option TI} {C:bM} {tbl:FuncId->List aD}
theorem Bq: ∀(wr:List (Nat×cS)) (mem:aE),aB (vA mem wr)=aM (aB mem) (wr.map λq=>(q.1,q.2.down))
 | [],mem=>rfl
 |(b,x)::wr,mem=>by
  simp only[vA,yt1,aM,dE];rw[Bq wr];congr 1;simp[aB,List.map_set]
theorem Kw(o:a9)(mem:aE):aB (o.apply mem)=o.down.apply (aB mem):=by
 unfold a9.apply cU.apply;have:aB (vA mem o.wr++o.push)=aB (vA mem o.wr)++aB o.push:=by simp[aB]
 rw[this,Bq];rfl
theorem Ew(v:KV):nB v.down=GC v:=by
 cases v<;>rfl
theorem yY(x:cS):f7 x.down=zS x:=by
 obtain⟨g,f,row⟩:=x;cases row with
 |os=>rfl
 |ts β ag T xs=>
  unfold f7 zS cS.down KRow.down;simp only;cases c8 ag T xs<;>rfl
 |cells e cs=>
  show some (g,e,(KV.downs cs).map nB)=some (g,e,cs.map GC);rw[cC,List.map_map];congr 3;exact List.map_congr_left λv _=>Ew v
theorem rZ(mem:aE)(b:Nat):a5 (aB mem) b=lV mem b:=by
 unfold a5 lV;rw[a7,d6];cases mem[b]? with
 |none=>rfl
 |some x=>
  cases x with
  |none=>rfl
  |some x=>exact yY x
theorem CK(mem:aE)(wr:List (Nat×cS)):n8 (aB mem) (wr.map λq=>(q.1,q.2.down))=wP mem wr:=by
 funext b;unfold n8 wP;rw[List.all_map];congr 1;funext q;simp only[Function.comp,yY,rZ]
theorem MA(op:Op)(mem:aE)(v:KV)(rd:List Nat):Mo op (aB mem) v.down rd=Nn op mem v rd:=by
 unfold Mo Nn;rw[Ew];congr 1;rcases rd with _|⟨b,_|⟨c,r⟩⟩
 ·rfl
 ·simp only[rZ];cases lV mem b<;>rfl
 ·rfl
theorem Oh(o:a9)(mk:Bool)(rs i:Nat)(op:Op)(mem:aE):o.down.tr mk rs i op (aB mem)=o.tr mk rs i op mem:=by
 unfold cU.tr a9.tr;simp only[a9.down,List.map_map,MA,CK];congr 1;cases o.push<;>rfl
theorem J5(mem:aE)(rs:Nat):wF (aB mem) rs=GE mem rs:=by
 unfold wF GE;rw[a7,d6];cases mem[rs]? with
 |none=>rfl
 |some x=>cases x<;>rfl
theorem FP: ∀mem:aE,trim (aB mem)=aB (FK mem)
 | []=>rfl
 |x::m=>by
  have H:=FP m
  show(match trim (aB m)with| []=>bif Lk (x.map cS.down)then []else [x.map cS.down]|y=>x.map cS.down::y)=_
  rw[H];simp only[FK];cases FK m with
  |nil=>cases x<;>rfl
  |cons y ys=>rfl
theorem eJ.set{env:Nat->KV}{tmps:List AV}(h:eJ env tmps){d:Nat}(M:d<tmps.length)(v:KV):eJ (lT env d v) (pE v.down tmps d):=by
 intro t;unfold lT;cases ht:Nat.beq t d with
 |true=>
  obtain rfl:=nb.1 ht;simp only[yl];cases K:fB v.down with
  |true=>exact .inl (mN.1 K)
  |false=>exact .inr ⟨by rw[a7,dE,yw M],rfl⟩
 |false=>
  simp only[yj];have I:t≠d:=λe=>by rw[e,yf3]at ht;cases ht
  rcases h t with H|⟨H,J⟩
  ·exact .inl H
  ·refine .inr ⟨?_,J⟩;rw[a7,dE,yp (λe=>I e.symm),<-a7];exact H
theorem eJ.put{env:Nat->KV}{tmps:List AV}(h:eJ env tmps){dst:Option Tmp}(H: ∀d,dst=some d->d<tmps.length)(v:KV):eJ (yJ env dst v) (k9 tmps dst v.down):=by
 cases dst with
 |none=>exact h
 |some d=>exact h.set (H d rfl) v
theorem mM(tmps:List AV)(dst:Option Tmp)(v:AV):(k9 tmps dst v).length=tmps.length:=by
 cases dst<;>simp[k9,dE]
theorem L5{h:Option Int}{v:KV}{k:KV->Option R}{k1:AV->Option R1}(I: ∀w,k w=some r->k1 w.down=some r1)(H:LC (aQ R) h v k=some r):wK h v.down k1=some r1:=by
 unfold LC at H;split at H
 ·exact I _ H
 ·split at H
  ·simp only[real_guard]at H;rw[bP]at H;simp only[KV.down,wK,dS];exact⟨H.1,I _ H.2⟩
  ·cases H
theorem Es(ht:bL P tab)(hC:C1 C tbl){an:kQ}{tk:Bool}{rid:Nat}{Y:List (Option Tmp)}: ∀{ops:List Oper} {i rs:Nat} {st:wH} {tr:List Tr} {k:wH->List Tr->Option R} {k1:St->List Tr->Option R1} {tmps:List AV},
  (∀o∈ops,∀d,o.dst=some d->d<tmps.length)->eJ st.env tmps->JX (aQ R) tab tbl an tk rid Y ops i rs st tr k=some r->
  (∀K N I,k K N=some r->eJ K.env I->I.length=tmps.length->k1 ⟨I,aB K.mem⟩ N=some r1)->qI P C an tk rid Y ops i rs ⟨tmps,aB st.mem⟩ tr k1=some r1
 | [],i,rs,st,tr,k,k1,tmps,hd,V,h,hk=>hk _ _ _ h V rfl
 |o::ops,i,rs,st,tr,k,k1,tmps,hd,V,h,hk=>by
  have run: ∀{env:Nat->KV} {H:List AV},eJ env H->H.length=tmps.length->
    (bif (bif dJ o.op then GE st.mem rs else true) then On (aQ R) tab tbl (bD rid i an.own) tk (bD rid i an.boxed) (bD rid i an.raw) (bD rid i an.vars) o env st.mem rs fun out =>
     LC (aQ R) (Aq rid i an.hint) out.v λv=>JX (aQ R) tab tbl an tk rid Y ops (i+1) (bif dJ o.op then rs+1 else rs) ⟨yJ env o.dst v,out.apply st.mem⟩ (out.tr (dJ o.op) rs i o.op st.mem::tr) k else none)=some r->
    guardB (bif dJ o.op then wF (aB st.mem) rs else true) ((Fy P C (bD rid i an.own) tk (bD rid i an.boxed) (bD rid i an.raw) (bD rid i an.vars) o (bW H) (aB st.mem) rs).bind λout=>
     wK (Aq rid i an.hint) out.v λv=>qI P C an tk rid Y ops (i+1) (bif dJ o.op then rs+1 else rs) {tmps:=k9 H o.dst v,mem:=out.apply (aB st.mem)} (out.tr (dJ o.op) rs i o.op (aB st.mem)::tr) k1)=some r1:=by
   intro env H J Z h;rw[bP]at h;obtain⟨hm,h⟩:=h;obtain⟨out,h,hop⟩:=NQ ht hC J h;rw[dS];refine⟨by rw[J5];exact hm,?_⟩;rw[hop];simp only[ye];refine L5 (λw hw=>?_) h;rw[Oh,<-Kw];exact Es ht hC (st:=⟨yJ env o.dst w,out.apply st.mem⟩) (tmps:=k9 H o.dst w.down) (λo' W d M=>by rw[mM,Z];exact hd o' (yg _ W) d M)
    (J.put (λd M=>by rw[Z];exact hd o (ym ..) d M) w) hw (λK N I h1 h2 h3=>hk K N I h1 h2 (by rw[h3,mM,Z]))
  have skip: ∀{env:Nat->KV} {H:List AV},eJ env H->H.length=tmps.length->JX (aQ R) tab tbl an tk rid Y ops (i+1) (bif dJ o.op then rs+1 else rs) ⟨yJ env o.dst (.lit undef),st.mem⟩ tr k=some r->
    qI P C an tk rid Y ops (i+1) (bif dJ o.op then rs+1 else rs) {tmps:=k9 H o.dst (.lit undef),mem:=aB st.mem} tr k1=some r1:=by
   intro env H J Z h;exact Es ht hC (st:=⟨yJ env o.dst (.lit undef),st.mem⟩) (tmps:=k9 H o.dst (.lit undef)) (λo' W d M=>by rw[mM,Z];exact hd o' (yg _ W) d M)
    (J.put (λd M=>by rw[Z];exact hd o (ym ..) d M) (.lit undef)) h (λK N I h1 h2 h3=>hk K N I h1 h2 (by rw[h3,mM,Z]))
  simp only[JX]at h;simp only[qI];cases hgd:o.guard with
  |none=>
   rw[hgd]at h;exact run V rfl h
  |some q=>
   obtain⟨j,U⟩:=q;rw[hgd]at h;simp only at h⊢
   rw[a7]at h;cases hds:Y[j]? with
   |none=>rw[hds]at h;cases h
   |some dd=>
    rw[hds]at h;cases dd with
    |none=>cases h
    |some d=>
     simp only at h⊢
     have hed:=V d;cases hv:st.env d with
     |lit v=>
      rw[hv]at h hed;rcases hed with h0|⟨h0,_⟩
      ·cases h0
      ·have hlt:d<tmps.length:=by rw[a7]at h0;exact(yd.1 h0).1
       rw[h0];cases v with
       |bool b=>
        simp only[KV.down,real_ite]at h⊢
        cases b with
        |true=>
         simp only[yl]at h⊢
         have J:=V.set hlt (.lit (.bool true));have O:(pE (KV.lit (.bool true)).down tmps d).length=tmps.length:=by rw[dE];simp
         cases U with
         |true=>exact run J O h
         |false=>exact skip J O h
        |false=>
         simp only[yj]at h⊢
         have J:=V.set hlt (.lit (.bool false));have O:(pE (KV.lit (.bool false)).down tmps d).length=tmps.length:=by rw[dE];simp
         cases U with
         |true=>exact skip J O h
         |false=>exact run J O h
       |tuple vs=>exact skip V rfl h
       |_=>cases h
     |_=>rw[hv]at h;cases h
theorem sK(ht:bL P tab)(hC:C1 C tbl){an:kQ}{rid:Nat}{ops:Array Oper}{J:Bool}{st:wH}{k:wH->Option R}{k1:St->Option R1}{tmps:List AV}(W: ∀o∈ops.toList,∀d,o.dst=some d->d<tmps.length)(N:eJ st.env tmps)
  (h:mI (aQ R) tab tbl an rid ops J st k=some r) (V: ∀I H,k I=some r->eJ I.env H->H.length=tmps.length->k1 ⟨H,aB I.mem⟩=some r1):gQ P C an rid ops J ⟨tmps,aB st.mem⟩ k1=some r1:=by
 unfold mI at h;unfold gQ;simp only at h⊢
 have hm:aB st.mem++List.replicate (nJ ops.toList) none=aB (st.mem++List.replicate (nJ ops.toList) none):=by simp[aB]
 rw[dO,hm];refine Es ht hC (st:=⟨st.env,st.mem++List.replicate (nJ ops.toList) none⟩) W N h λI M H K U O=>?_;rw[bP]at K;rw[dS];refine⟨K.1,?_⟩;simp only;rw[FP];exact V ⟨I.env,FK I.mem⟩ H K.2 U O
theorem jO{b:Nat}: ∀{l:List Nat},dL b l=true↔b∈l
 | []=>by simp[dL]
 |a::l=>by
  simp only[dL,yu1,nb,jO (l:=l),yl1];exact⟨λh=>h.imp Eq.symm id,λh=>h.imp Eq.symm id⟩
theorem x5: ∀{l:List Nat} {n a:Nat},c9 n l=true->a∈l->n≤a
 |b::l,n,a,h,H=>by
  simp only[c9,yb]at h;have I:=nl.1 h.1;cases H with
  |head=>exact I
  |tail _ H=>have:=x5 h.2 H;omega
def nV(tmps:List AV)(i:Nat):List Nat->List AV
 | []=> []
 |a::l=>(tmps[a-i]?).toList++nV tmps i l
theorem l4{live:List Nat}: ∀{tmps:List AV} {i:Nat} {suf:List Nat},(∀a,i≤a->(dL a live=true↔a∈suf))->c9 i suf=true->AV.refsAll (bK live tmps i)=AV.refsAll (nV tmps i suf)
 | [],i,suf,h,hs=>by
  have:nV [] i suf= []:=by
   clear h hs
   induction suf with
   |nil=>rfl
   |cons a l J=>simp[nV,J]
  rw[this];rfl
 |v::tmps,i,suf,h,hs=>by
  have H: ∀{l:List Nat},c9 (i+1) l=true->nV (v::tmps) i l=nV tmps (i+1) l:=by
   intro l
   induction l with
   |nil=>intro _;rfl
   |cons a l J=>
    intro M;have U:=x5 M (ym ..);simp only[c9,yb]at M;simp only[nV];rw[J (incFrom_mono M.2 (by omega))];rw[show a-i=(a-(i+1))+1 by omega,yd1]
  cases suf with
  |nil=>
   have hn:dL i live=false:=by
    cases hm:dL i live with
    |false=>rfl
    |true=>have:=(h i (ya1 _)).1 hm;cases this
   simp only[bK,hn,yj,AV.refsAll];rw[l4 (suf:= []) (λa ha=>h a (by omega)) rfl];rfl
  |cons a l=>
   have hs':=hs;simp only[c9,yb]at hs;have V:=nl.1 hs.1;by_cases e:a=i
   ·subst e;have hm:dL a live=true:=(h a (ya1 _)).2 (ym ..);simp only[bK,hm,yl,AV.refsAll];rw[l4 (suf:=l) (λb O=>?_) hs.2]
    ·simp only[nV,Nat.sub_self,yo2,Option.toList_some,List.singleton_append,AV.refsAll];rw[H hs.2]
    ·rw[h b (by omega)];constructor
     ·intro K;cases K with
      |head=>omega
      |tail _ x=>exact x
     ·exact λx=>yg _ x
   ·have hn:dL i live=false:=by
     cases hm:dL i live with
     |false=>rfl
     |true=>
      have N:=(h i (ya1 _)).1 hm;have h2:=x5 (l:=a::l) (n:=a) (by simp only[c9,yb];exact⟨nl.2 (ya1 _),hs.2⟩) N;omega
    have I:c9 (i+1) (a::l)=true:=by simp only[c9,yb];exact⟨nl.2 (by omega),hs.2⟩
    simp only[bK,hn,yj,AV.refsAll];rw[l4 (suf:=a::l) (λb O=>h b (by omega)) I,H I];rfl
 where
 incFrom_mono: ∀{l:List Nat} {n m:Nat},c9 n l=true->m≤n->c9 m l=true
  | [],_,_,_,_=>rfl
  |a::l,n,m,h,hm=>by
   simp only[c9,yb]at h⊢
   exact⟨nl.2 (yc2 hm (nl.1 h.1)),h.2⟩
theorem nY{env:Nat->KV}{tmps:List AV}(K:eJ env tmps): ∀{live:List Nat} {k:List KV->Option R},qE env (live.map .tmp) k=some r->
  ∃vs,k vs=some r/\nV tmps 0 live=KV.downs vs/\vs.length=live.length/\(∀(j t:Nat),live[j]?=some t->t<tmps.length/\∃v:KV,vs[j]?=some v/\v≠ .gone/\tmps[t]?=some v.down)
 | [],k,h=>⟨[],h,rfl,rfl,by simp⟩
 |t::live,k,h=>by
  simp only[yt1,qE]at h;obtain⟨v,H,h,N⟩:=aS K h;obtain⟨vs,h,J,O,U⟩:=nY K h;have ht:tmps[t]?=some v.down:=by
   simp only[bW,Cg]at H;rw[a7,Cy]at H;obtain⟨w,V,H⟩:=H;cases I:fB w with
   |true=>rw[I]at H;cases H
   |false=>rw[I]at H;rw[V];exact H
  refine⟨v::vs,h,by simp[nV,ht,J,KV.downs],by simp[O],λj u M=>?_⟩;cases j with
  |zero=>
   obtain rfl:=ya M;exact⟨(yd.1 ht).1,v,rfl,N,ht⟩
  |succ j=>exact U j u (by simpa using M)
theorem A0: ∀{live:List Nat} {vs:List KV} {t:Nat},dD live vs t= .gone\/∃(j:Nat) (v:KV),live[j]?=some t/\vs[j]?=some v/\dD live vs t=v
 | [],vs,t=> .inl (by cases vs<;>rfl)
 |a::live,[],t=> .inl rfl
 |a::live,v::vs,t=>by
  simp only[dD];cases H:Nat.beq t a with
  |true=>obtain rfl:=nb.1 H;exact .inr ⟨0,v,rfl,rfl,rfl⟩
  |false=>
   simp only[yj];rcases A0 (live:=live) (vs:=vs) (t:=t)with h|⟨j,w,K,J,I⟩
   ·exact .inl h
   ·exact .inr ⟨j+1,w,K,J,I⟩
theorem vT(f:i7): ∀vs:List AV,(AV.renAll f vs).length=vs.length
 | []=>rfl
 |v::vs=>by simp[AV.renAll,vT f vs]
theorem Fq(f:i7): ∀(vs:List AV) (j:Nat),(AV.renAll f vs)[j]?=(vs[j]?).map λv=>v.ren f
 | [],j=>by simp[AV.renAll]
 |v::vs,0=>rfl
 |v::vs,j+1=>by simpa[AV.renAll]using Fq f vs j
theorem BY(f:i7): ∀(vs:List KV) (j:Nat),(KV.renAll f vs)[j]?=(vs[j]?).map λv=>v.ren f
 | [],j=>by simp[KV.renAll]
 |v::vs,0=>rfl
 |v::vs,j+1=>by simpa[KV.renAll]using BY f vs j
theorem oW{live:List Nat}: ∀(tmps:List AV) (i:Nat),(bK live tmps i).length=tmps.length
 | [],_=>rfl
 |v::tmps,i=>by simp[bK,oW tmps]
theorem Bj{live:List Nat}: ∀(tmps:List AV) (i j:Nat),(bK live tmps i)[j]?=(tmps[j]?).map λv=>bif dL (i+j) live then v else .goneV
 | [],i,j=>by simp[bK]
 |v::tmps,i,0=>by simp[bK]
 |v::tmps,i,j+1=>by
  simp only[bK,yd1,Bj tmps];rw[show i+1+j=i+(j+1) by omega]
theorem wB{m:Nat}{vs ws:List AV}(h:AV.refsAll vs=AV.refsAll ws): ∀(n:Nat) (mem:aK),kR m vs n mem=kR m ws n mem
 |0,_=>rfl
 |n+1,mem=>by
  simp only[kR,h];cases gJ m (AV.refsAll ws++b6 mem) mem mem 0 with
  |none=>rfl
  |some q=>
   simp only;cases oP mem q.1 q.2 with
   |none=>rfl
   |some mem'=>simp only[ye,wB h n mem']
theorem Ae{m:Nat}{vs ws:List AV}(h:AV.refsAll vs=AV.refsAll ws): ∀(n:Nat) (mem:aK),pN m vs n mem=pN m ws n mem
 |0,_=>rfl
 |b+1,mem=>by simp only[pN,h,Ae h b]
theorem BA{m:Nat}{vs ws:List AV}(h:AV.refsAll vs=AV.refsAll ws)(mem:aK):Bp m vs mem=Bp m ws mem:=by
 unfold Bp;rw[Ae h,wB h]
theorem sW{keep:Bool}{old:List (Option Bool)}{live:List Nat}{st:wH}{k:wH->Option R}{tmps:List AV}(he:eJ st.env tmps)(hs:c9 0 live=true)(h:vU (aQ R) keep old live st k=some r):
  ∃M I,k M=some r/\Jq keep old live ⟨tmps,aB st.mem⟩=some ⟨I,aB M.mem⟩/\eJ M.env I/\I.length=tmps.length:=by
 unfold vU at h;obtain⟨vs,h,W,hl,hj⟩:=nY he h;unfold AF at h;obtain⟨H,h,K⟩:=w5 h;simp only at h;rw[bP]at h;obtain⟨hg,h⟩:=h;have J:AV.refsAll (bK live tmps 0)=KV.refsAll vs:=by
  rw[l4 (suf:=live) (λa _=>jO) hs,W,bX]
 rw[BA (ws:=bK live tmps 0) (by rw[J,bX])]at K;generalize U:rF H (jM H (old.length+(KV.refsAll vs).length)) (nS 0 old.length++KV.refsAll vs) []=ids at h hg;refine⟨_,AV.renAll (lP old.length keep H ids) (bK live tmps 0),h,?_,?_,by rw[vT,oW]⟩
 ·have hc:qV keep old (bK live tmps 0) (aB st.mem)=some (AV.renAll (lP old.length keep H ids) (bK live tmps 0),aB (oM old.length keep (lP old.length keep H ids) H 0 ids)):=by
   unfold qV;rw[K];simp only[ye,J,A5,pO,pJ,yO,vG,U];rw[dS];exact⟨hg,rfl⟩
  simp only[Jq,hc,yh]
 ·intro t;rcases A0 (live:=live) (vs:=KV.renAll (lP old.length keep H ids) vs) (t:=t)with V|⟨j,v,V,h2,h3⟩
  ·exact .inl V
  ·right;rw[BY]at h2;obtain⟨v0,hv0,rfl⟩:=yc.1 h2;obtain⟨hlt,w,hw,N,Z⟩:=hj j t V;rw[hv0]at hw;obtain rfl:=ya hw;have O:dL t live=true:=jO.2 (yt V);simp only[h3];refine⟨?_,?_⟩
   ·rw[a7,Fq,Bj,yy,O,Z];simp only[yl,yh,qP]
   ·cases Y:fB (v0.ren (lP old.length keep H ids)).down with
    |false=>rfl
    |true=>
     exfalso;have:=mN.1 Y;cases v0<;>simp only[KV.ren]at this<;>first|exact N rfl|cases this|(split at this<;>cases this)
theorem L9{i c:Nat}{β ag:Bool}{T:Ty}{I:List (den T)}{hs:cK}{nb:Nat}{k:KV->cK->List KRow->Option R}{xs:List PV}{p q:PV}
  (K:xs[i]?=some p) (N:p.cells[c]?=some q) (H:q=c8 ag T I) (h:AE (aQ R) true i c (.tsl β ag T I) hs nb k=some r):
  ∃a hs' rows,k a hs' rows=some r/\∃v,mJ true xs i c (.sl 0 0) (a8 hs) nb=some (v,a8 hs',rows.map KRow.down):=by
 unfold AE at h;unfold mJ;simp only[K,N,ye,rH];cases J:kJ c hs with
 |some M=>
  rw[J]at h;simp only[real_guard]at h;rw[bP]at h;refine⟨_,_,_,h.2,M.2.down,?_⟩;simp only[yh];rw[dS];exact⟨h.1,rfl⟩
 |none=>
  rw[J]at h;simp only[yl]at h;refine⟨_,_,_,h,.msw nb 0,?_⟩;simp only[Option.map_none,wO,yj];rw[dS];exact⟨rfl,by rw[H,Ed];rfl⟩
theorem Ir{s:KV}{n c:Nat}{k:aE->Option R}(h:GB (aQ R) mem s n c k=some r): ∃mem',k mem'=some r/\Ft (aB mem) s.down n c=some (aB mem'):=by
 unfold GB at h;split at h
 ·rename_i b g;obtain⟨N,M,h⟩:=eC h;split at h
  ·rename_i T xs hs J;simp only[real_getN]at h;rw[Cy]at h;obtain⟨x,Y,h⟩:=h;split at h
   ·rename_i β ag O U H;rw[a7]at H;obtain⟨y,W,K⟩:=(cV.of true T x).2 _ _ H;have I:y=c8 ag O U:=by
     rcases K with ⟨_,_,e,_⟩|⟨_,e,_⟩|⟨_,e,_⟩|⟨_,_,_,e,rfl⟩<;>cases e
     rfl
    have V:(xs.map (cF (eE T) T))[n]?=some (cF (eE T) T x):=by rw[yc1,Y];rfl
    obtain⟨_,hs',rows,h,v,hr⟩:=L9 V (by rw[b4];exact W) I h;refine⟨_,h,?_⟩;have Z:N.down.row= .own T.size (xs.map (cF (eE T) T)) (a8 hs):=by rw[show N.down.row=N.row.down from rfl,J];rfl
    simp only[KV.down,Ft,M,ye,Z];rw[dO,hr,yh,HQ,mD,pC];rfl
   ·cases h
  ·cases h
 ·cases h
theorem Ml{off:Nat}{v:KV}{k:KV->Option R}(h:MZ mem off v k=some r): ∃s,k s=some r/\MU (aB mem) off v.down=some s.down:=by
 unfold MZ at h;split at h
 ·rename_i b g i c;obtain⟨x,K,h⟩:=bZ h;split at h
  ·rename_i e cs H;split at h
   ·rename_i v J;rw[a7]at J;refine⟨v,h,?_⟩;have M:x.down.row= .cells e (KV.downs cs):=by rw[show x.down.row=x.row.down from rfl,H];rfl
    simp only[KV.down,MU,K,ye,M];exact lJ J
   ·cases h
  ·cases h
 ·rename_i I;refine⟨v,h,?_⟩;cases v with
  |ptr b g i c=>exact(I _ _ _ _ rfl).elim
  |_=>rfl
theorem LR{off:Nat}{v:KV}{k:aE->Option R}(h:GI mem off v k=some r): ∃mem',k mem'=some r/\AI (aB mem) off v.down=some (aB mem'):=by
 unfold GI at h;split at h
 ·rename_i b g i c;obtain⟨x,K,h⟩:=bZ h;split at h
  ·rename_i e cs J;have M:x.down.row= .cells e (KV.downs cs):=by rw[show x.down.row=x.row.down from rfl,J];rfl
   split at h
   ·rename_i V O I;rw[a7]at I;obtain⟨y,U,h⟩:=bZ h;refine⟨_,h,?_⟩;simp only[KV.down,AI,K,ye,M,lJ I,U,yh];rw[mD,show y.down.row=y.row.down from rfl,mS,dE];simp only[yh,cS.down,KRow.down,sP,KV.down]
   ·rename_i H;refine⟨_,h,?_⟩;simp only[KV.down,AI,K,ye,M];split
    ·rename_i V O I;rw[cC,yc1]at I;rw[a7]at H;obtain⟨v,W,N⟩:=yc.1 I;cases v<;>simp[KV.down,AV.dead,AV.goneV,AV.unkB]at N;exact(H _ _ W).elim
    ·rfl
  ·cases h
 ·cases h
theorem Mb{env:Nat->KV}{tmps:List AV}(J:eJ env tmps){q:Operand×Nat×Operand×Nat}{k:aE->Option R}(h:Nx (aQ R) env mem q k=some r): ∃mem',k mem'=some r/\IP tmps (aB mem) q=some (aB mem'):=by
 unfold Nx at h;obtain⟨p,K,h,_⟩:=aS J h;cases H:Nat.beq q.2.2.2 999 with
 |true=>
  rw[H]at h;obtain⟨mem',I,ht⟩:=LR h;exact⟨mem',I,by simp only[IP,K,ye,H,yl];exact ht⟩
 |false=>
 rw[H,yj]at h;obtain⟨s,h,hs⟩:=Ml h;obtain⟨v,M,h,_⟩:=aS J h;split at h
 ·rename_i kd n;simp only[real_guard]at h;rw[bP]at h;obtain⟨mem',I,ht⟩:=Ir h.2;refine⟨mem',I,?_⟩;simp only[IP,K,hs,M,H,yj,ye,KV.down];rw[dS];exact⟨h.1,ht⟩
 ·cases h
theorem CU{env:Nat->KV}{tmps:List AV}(I:eJ env tmps): ∀{l:List (Operand×Nat×Operand×Nat)} {mem:aE} {k:aE->Option R},HL (aQ R) env l mem k=some r->∃mem',k mem'=some r/\Bh tmps l (aB mem)=some (aB mem')
 | [],mem,k,h=>⟨mem,h,rfl⟩
 |q::l,mem,k,h=>by
  simp only[HL]at h;obtain⟨J,h,M⟩:=Mb I h;obtain⟨H,h,K⟩:=CU I h;exact⟨H,h,by simp only[Bh,M,ye,K]⟩
theorem A7{an:kQ}{rid:Nat}{old:List (Option Bool)}{st:wH}{k:wH->Option R}{tmps:List AV}(he:eJ st.env tmps)(h:B4 (aQ R) an rid old st k=some r):
  ∃K H,k K=some r/\wI an rid old ⟨tmps,aB st.mem⟩=some ⟨H,aB K.mem⟩/\eJ K.env H/\H.length=tmps.length:=by
 unfold B4 at h;unfold wI;cases hq:cP rid an.tidy with
 |none=>rw[hq]at h;exact⟨st,tmps,h,rfl,he,rfl⟩
 |some q=>
  rw[hq]at h;simp only at h⊢
  rw[bP]at h;obtain⟨hs,h⟩:=h;obtain⟨vs,h,V,hl,hj⟩:=nY he h;obtain⟨mem1,h,I⟩:=w5 h;have J:AV.refsAll (bK q.1 tmps 0)=KV.refsAll vs:=by
   rw[l4 (suf:=q.1) (λa _=>jO) hs,V,bX]
  rw[BA (ws:=bK q.1 tmps 0) (by rw[J,bX])]at I;have N:eJ (dD q.1 vs) (bK q.1 tmps 0):=by
   intro t;rcases A0 (live:=q.1) (vs:=vs) (t:=t)with U|⟨j,v,U,h2,h3⟩
   ·exact .inl U
   ·right;obtain⟨hlt,w,hw,M,Y⟩:=hj j t U;rw[h2]at hw;obtain rfl:=ya hw;have O:dL t q.1=true:=jO.2 (yt U);rw[h3];refine⟨by rw[a7,Bj,yy,O,Y];rfl,?_⟩;cases W:fB v.down with
    |false=>rfl
    |true=>exact(M (mN.1 W)).elim
  obtain⟨mem2,h,Z⟩:=CU N h;refine⟨_,bK q.1 tmps 0,h,?_,N,oW _ _⟩;rw[I,ye,Z,yh]
end
end Go.Ab
