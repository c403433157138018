import Derived.Test.YtjjjbgicidhpfaaDoorLib22
set_option linter.unusedVariables false
set_option linter.unusedSectionVars false
set_option linter.unusedSimpArgs false
namespace Go.Ab
variable [cF]
section
variable {P:Program} {R R1:Type} {r:R} {r1:R1} {mem:aF} {tab:TypeId->Option TI} {C:bX} {tbl:FuncId->List aE}
theorem D4: ∀(wr:List (Nat×dE)) (mem:aF),aB (y9 mem wr)=aN (aB mem) (wr.map λq=>(q.1,q.2.down))
 | [],mem=>rfl
 |(b,x)::wr,mem=>by
  simp only[y9,yg2,aN,d8];rw[D4 wr];congr 1;simp[aB,List.map_set]
theorem Oq(o:bC)(mem:aF):aB (o.apply mem)=o.down.apply (aB mem):=by
 unfold bC.apply dI.apply;have:aB (y9 mem o.wr++o.push)=aB (y9 mem o.wr)++aB o.push:=by simp[aB]
 rw[this,D4];rfl
theorem GS(v:KV):o9 v.down=JF v:=by
 cases v<;>rfl
theorem BO(x:dE):iP x.down=BR x:=by
 obtain⟨g,f,row⟩:=x;cases row with
 |os=>rfl
 |ts β ag T xs=>
  unfold iP BR dE.down KRow.down;simp only;cases dS ag T xs<;>rfl
 |cells e cs=>
  show some (g,e,(KV.downs cs).map o9)=some (g,e,cs.map JF);rw[cQ,List.map_map];congr 3;exact List.map_congr_left λv _=>GS v
theorem w6(mem:aF)(b:Nat):a8 (aB mem) b=oU mem b:=by
 unfold a8 oU;rw[bA,eW];cases mem[b]? with
 |none=>rfl
 |some x=>
  cases x with
  |none=>rfl
  |some x=>exact BO x
theorem GM(mem:aF)(wr:List (Nat×dE)):rE (aB mem) (wr.map λq=>(q.1,q.2.down))=Ay mem wr:=by
 funext b;unfold rE Ay;rw[List.all_map];congr 1;funext q;simp only[Function.comp,BO,w6]
theorem PJ(op:Op)(mem:aF)(v:KV)(rd:List Nat):Qd op (aB mem) v.down rd=SD op mem v rd:=by
 unfold Qd SD;rw[GS];congr 1;rcases rd with _|⟨b,_|⟨c,r⟩⟩
 ·rfl
 ·simp only[w6];cases oU mem b<;>rfl
 ·rfl
theorem Tt(o:bC)(mk:Bool)(rs i:Nat)(op:Op)(mem:aF):o.down.tr mk rs i op (aB mem)=o.tr mk rs i op mem:=by
 unfold dI.tr bC.tr;simp only[bC.down,List.map_map,PJ,GM];congr 1;cases o.push<;>rfl
theorem OC(mem:aF)(rs:Nat):Aa (aB mem) rs=Ki mem rs:=by
 unfold Aa Ki;rw[bA,eW];cases mem[rs]? with
 |none=>rfl
 |some x=>cases x<;>rfl
theorem IM: ∀mem:aF,trim (aB mem)=aB (I8 mem)
 | []=>rfl
 |x::m=>by
  have H:=IM m
  show(match trim (aB m)with| []=>bif OX (x.map dE.down)then []else [x.map dE.down]|y=>x.map dE.down::y)=_
  rw[H];simp only[I8];cases I8 m with
  |nil=>cases x<;>rfl
  |cons y ys=>rfl
theorem fJ.set{env:Nat->KV}{tmps:List AV}(h:fJ env tmps){d:Nat}(K:d<tmps.length)(v:KV):fJ (n8 env d v) (s6 v.down tmps d):=by
 intro t;unfold n8;cases ht:Nat.beq t d with
 |true=>
  obtain rfl:=nb.1 ht;simp only[yg];cases M:gK v.down with
  |true=>exact .inl (pF.1 M)
  |false=>exact .inr ⟨by rw[bA,d8,yt K],rfl⟩
 |false=>
  simp only[yh];have H:t≠d:=λe=>by rw[e,yg3]at ht;cases ht
  rcases h t with J|⟨J,N⟩
  ·exact .inl J
  ·refine .inr ⟨?_,N⟩;rw[bA,d8,yo (λe=>H e.symm),<-bA];exact J
theorem fJ.put{env:Nat->KV}{tmps:List AV}(h:fJ env tmps){dst:Option Tmp}(H: ∀d,dst=some d->d<tmps.length)(v:KV):fJ (AI env dst v) (nM tmps dst v.down):=by
 cases dst with
 |none=>exact h
 |some d=>exact h.set (H d rfl) v
theorem o7(tmps:List AV)(dst:Option Tmp)(v:AV):(nM tmps dst v).length=tmps.length:=by
 cases dst<;>simp[nM,d8]
theorem QI{h:Option Int}{v:KV}{k:KV->Option R}{k1:AV->Option R1}(J: ∀w,k w=some r->k1 w.down=some r1)(H:OQ (aS R) h v k=some r):AG h v.down k1=some r1:=by
 unfold OQ at H;split at H
 ·exact J _ H
 ·split at H
  ·simp only[real_guard]at H;rw[bZ]at H;simp only[KV.down,AG,eK];exact⟨H.1,J _ H.2⟩
  ·cases H
theorem HY(ht:bT P tab)(hC:Gs C tbl){an:nB}{tk:Bool}{rid:Nat}{ds:List (Option Tmp)}: ∀{ops:List Oper} {i rs:Nat} {st:zX} {tr:List Tr} {k:zX->List Tr->Option R} {k1:St->List Tr->Option R1} {tmps:List AV},
  (∀o∈ops,∀d,o.dst=some d->d<tmps.length)->fJ st.env tmps->NG (aS R) tab tbl an tk rid ds ops i rs st tr k=some r->
  (∀M O J,k M O=some r->fJ M.env J->J.length=tmps.length->k1 ⟨J,aB M.mem⟩ O=some r1)->vM P C an tk rid ds ops i rs ⟨tmps,aB st.mem⟩ tr k1=some r1
 | [],i,rs,st,tr,k,k1,tmps,hd,W,h,hk=>hk _ _ _ h W rfl
 |o::ops,i,rs,st,tr,k,k1,tmps,hd,W,h,hk=>by
  have run: ∀{env:Nat->KV} {H:List AV},fJ env H->H.length=tmps.length->
    (bif (bif eE o.op then Ki st.mem rs else true) then Tl (aS R) tab tbl (bG rid i an.own) tk (bG rid i an.boxed) (bG rid i an.raw) (bG rid i an.vars) o env st.mem rs fun out =>
     OQ (aS R) (CZ rid i an.hint) out.v λv=>NG (aS R) tab tbl an tk rid ds ops (i+1) (bif eE o.op then rs+1 else rs) ⟨AI env o.dst v,out.apply st.mem⟩ (out.tr (eE o.op) rs i o.op st.mem::tr) k else none)=some r->
    guardB (bif eE o.op then Aa (aB st.mem) rs else true) ((Ii P C (bG rid i an.own) tk (bG rid i an.boxed) (bG rid i an.raw) (bG rid i an.vars) o (cC H) (aB st.mem) rs).bind λout=>
     AG (CZ rid i an.hint) out.v λv=>vM P C an tk rid ds ops (i+1) (bif eE o.op then rs+1 else rs) {tmps:=nM H o.dst v,mem:=out.apply (aB st.mem)} (out.tr (eE o.op) rs i o.op (aB st.mem)::tr) k1)=some r1:=by
   intro env H K Z h;rw[bZ]at h;obtain⟨hm,h⟩:=h;obtain⟨out,h,hop⟩:=Sv ht hC K h;rw[eK];refine⟨by rw[OC];exact hm,?_⟩;rw[hop];simp only[yb];refine QI (λw hw=>?_) h;rw[Tt,<-Oq];exact HY ht hC (st:=⟨AI env o.dst w,out.apply st.mem⟩) (tmps:=nM H o.dst w.down) (λo' Y d N=>by rw[o7,Z];exact hd o' (yj _ Y) d N)
    (K.put (λd N=>by rw[Z];exact hd o (yn ..) d N) w) hw (λM O J h1 h2 h3=>hk M O J h1 h2 (by rw[h3,o7,Z]))
  have skip: ∀{env:Nat->KV} {H:List AV},fJ env H->H.length=tmps.length->NG (aS R) tab tbl an tk rid ds ops (i+1) (bif eE o.op then rs+1 else rs) ⟨AI env o.dst (.lit undef),st.mem⟩ tr k=some r->
    vM P C an tk rid ds ops (i+1) (bif eE o.op then rs+1 else rs) {tmps:=nM H o.dst (.lit undef),mem:=aB st.mem} tr k1=some r1:=by
   intro env H K Z h;exact HY ht hC (st:=⟨AI env o.dst (.lit undef),st.mem⟩) (tmps:=nM H o.dst (.lit undef)) (λo' Y d N=>by rw[o7,Z];exact hd o' (yj _ Y) d N)
    (K.put (λd N=>by rw[Z];exact hd o (yn ..) d N) (.lit undef)) h (λM O J h1 h2 h3=>hk M O J h1 h2 (by rw[h3,o7,Z]))
  simp only[NG]at h;simp only[vM];cases hgd:o.guard with
  |none=>
   rw[hgd]at h;exact run W rfl h
  |some q=>
   obtain⟨j,V⟩:=q;rw[hgd]at h;simp only at h⊢
   rw[bA]at h;cases hds:ds[j]? with
   |none=>rw[hds]at h;cases h
   |some dd=>
    rw[hds]at h;cases dd with
    |none=>cases h
    |some d=>
     simp only at h⊢
     have hed:=W d;cases hv:st.env d with
     |lit v=>
      rw[hv]at h hed;rcases hed with h0|⟨h0,_⟩
      ·cases h0
      ·have hlt:d<tmps.length:=by rw[bA]at h0;exact(yd.1 h0).1
       rw[h0];cases v with
       |bool b=>
        simp only[KV.down,real_ite]at h⊢
        cases b with
        |true=>
         simp only[yg]at h⊢
         have K:=W.set hlt (.lit (.bool true));have U:(s6 (KV.lit (.bool true)).down tmps d).length=tmps.length:=by rw[d8];simp
         cases V with
         |true=>exact run K U h
         |false=>exact skip K U h
        |false=>
         simp only[yh]at h⊢
         have K:=W.set hlt (.lit (.bool false));have U:(s6 (KV.lit (.bool false)).down tmps d).length=tmps.length:=by rw[d8];simp
         cases V with
         |true=>exact skip K U h
         |false=>exact run K U h
       |tuple vs=>exact skip W rfl h
       |_=>cases h
     |_=>rw[hv]at h;cases h
theorem yS(ht:bT P tab)(hC:Gs C tbl){an:nB}{rid:Nat}{ops:Array Oper}{K:Bool}{st:zX}{k:zX->Option R}{k1:St->Option R1}{tmps:List AV}(Y: ∀o∈ops.toList,∀d,o.dst=some d->d<tmps.length)(U:fJ st.env tmps)
  (h:pS (aS R) tab tbl an rid ops K st k=some r) (V: ∀J H,k J=some r->fJ J.env H->H.length=tmps.length->k1 ⟨H,aB J.mem⟩=some r1):jM P C an rid ops K ⟨tmps,aB st.mem⟩ k1=some r1:=by
 unfold pS at h;unfold jM;simp only at h⊢
 have hm:aB st.mem++List.replicate (pX ops.toList) none=aB (st.mem++List.replicate (pX ops.toList) none):=by simp[aB]
 rw[eG,hm];refine HY ht hC (st:=⟨st.env,st.mem++List.replicate (pX ops.toList) none⟩) Y U h λJ N H M O W=>?_;rw[bZ]at M;rw[eK];refine⟨M.1,?_⟩;simp only;rw[IM];exact V ⟨J.env,I8 J.mem⟩ H M.2 O W
theorem lR{b:Nat}: ∀{l:List Nat},eC b l=true↔b∈l
 | []=>by simp[eC]
 |a::l=>by
  simp only[eC,yc2,nb,lR (l:=l),yj1];exact⟨λh=>h.imp Eq.symm id,λh=>h.imp Eq.symm id⟩
theorem AS: ∀{l:List Nat} {n a:Nat},dR n l=true->a∈l->n≤a
 |b::l,n,a,h,H=>by
  simp only[dR,yc]at h;have J:=nl.1 h.1;cases H with
  |head=>exact J
  |tail _ H=>have:=AS h.2 H;omega
def qE(tmps:List AV)(i:Nat):List Nat->List AV
 | []=> []
 |a::l=>(tmps[a-i]?).toList++qE tmps i l
theorem oM{live:List Nat}: ∀{tmps:List AV} {i:Nat} {suf:List Nat},(∀a,i≤a->(eC a live=true↔a∈suf))->dR i suf=true->AV.refsAll (bP live tmps i)=AV.refsAll (qE tmps i suf)
 | [],i,suf,h,hs=>by
  have:qE [] i suf= []:=by
   clear h hs
   induction suf with
   |nil=>rfl
   |cons a l K=>simp[qE,K]
  rw[this];rfl
 |v::tmps,i,suf,h,hs=>by
  have H: ∀{l:List Nat},dR (i+1) l=true->qE (v::tmps) i l=qE tmps (i+1) l:=by
   intro l
   induction l with
   |nil=>intro _;rfl
   |cons a l K=>
    intro N;have V:=AS N (yn ..);simp only[dR,yc]at N;simp only[qE];rw[K (incFrom_mono N.2 (by omega))];rw[show a-i=(a-(i+1))+1 by omega,ym1]
  cases suf with
  |nil=>
   have hn:eC i live=false:=by
    cases hm:eC i live with
    |false=>rfl
    |true=>have:=(h i (ya1 _)).1 hm;cases this
   simp only[bP,hn,yh,AV.refsAll];rw[oM (suf:= []) (λa ha=>h a (by omega)) rfl];rfl
  |cons a l=>
   have hs':=hs;simp only[dR,yc]at hs;have U:=nl.1 hs.1;by_cases e:a=i
   ·subst e;have hm:eC a live=true:=(h a (ya1 _)).2 (yn ..);simp only[bP,hm,yg,AV.refsAll];rw[oM (suf:=l) (λb O=>?_) hs.2]
    ·simp only[qE,yd4,ye3,Option.toList_some,List.singleton_append,AV.refsAll];rw[H hs.2]
    ·rw[h b (by omega)];constructor
     ·intro M;cases M with
      |head=>omega
      |tail _ x=>exact x
     ·exact λx=>yj _ x
   ·have hn:eC i live=false:=by
     cases hm:eC i live with
     |false=>rfl
     |true=>
      have W:=(h i (ya1 _)).1 hm;have h2:=AS (l:=a::l) (n:=a) (by simp only[dR,yc];exact⟨nl.2 (ya1 _),hs.2⟩) W;omega
    have J:dR (i+1) (a::l)=true:=by simp only[dR,yc];exact⟨nl.2 (by omega),hs.2⟩
    simp only[bP,hn,yh,AV.refsAll];rw[oM (suf:=a::l) (λb O=>h b (by omega)) J,H J];rfl
 where
 incFrom_mono: ∀{l:List Nat} {n m:Nat},dR n l=true->m≤n->dR m l=true
  | [],_,_,_,_=>rfl
  |a::l,n,m,h,hm=>by
   simp only[dR,yc]at h⊢
   exact⟨nl.2 (yq2 hm (nl.1 h.1)),h.2⟩
theorem qS{env:Nat->KV}{tmps:List AV}(N:fJ env tmps): ∀{live:List Nat} {k:List KV->Option R},vC env (live.map .tmp) k=some r->
  ∃vs,k vs=some r/\qE tmps 0 live=KV.downs vs/\vs.length=live.length/\(∀(j t:Nat),live[j]?=some t->t<tmps.length/\∃v:KV,vs[j]?=some v/\v≠ .gone/\tmps[t]?=some v.down)
 | [],k,h=>⟨[],h,rfl,rfl,by simp⟩
 |t::live,k,h=>by
  simp only[yg2,vC]at h;obtain⟨v,H,h,O⟩:=aU N h;obtain⟨vs,h,K,V,W⟩:=qS N h;have ht:tmps[t]?=some v.down:=by
   simp only[cC,Fo]at H;rw[bA,FJ]at H;obtain⟨w,U,H⟩:=H;cases J:gK w with
   |true=>rw[J]at H;cases H
   |false=>rw[J]at H;rw[U];exact H
  refine⟨v::vs,h,by simp[qE,ht,K,KV.downs],by simp[V],λj u M=>?_⟩;cases j with
  |zero=>
   obtain rfl:=ya M;exact⟨(yd.1 ht).1,v,rfl,O,ht⟩
  |succ j=>exact W j u (by simpa using M)
theorem Dk: ∀{live:List Nat} {vs:List KV} {t:Nat},dW live vs t= .gone\/∃(j:Nat) (v:KV),live[j]?=some t/\vs[j]?=some v/\dW live vs t=v
 | [],vs,t=> .inl (by cases vs<;>rfl)
 |a::live,[],t=> .inl rfl
 |a::live,v::vs,t=>by
  simp only[dW];cases H:Nat.beq t a with
  |true=>obtain rfl:=nb.1 H;exact .inr ⟨0,v,rfl,rfl,rfl⟩
  |false=>
   simp only[yh];rcases Dk (live:=live) (vs:=vs) (t:=t)with h|⟨j,w,K,M,J⟩
   ·exact .inl h
   ·exact .inr ⟨j+1,w,K,M,J⟩
theorem Av(f:kY): ∀vs:List AV,(AV.renAll f vs).length=vs.length
 | []=>rfl
 |v::vs=>by simp[AV.renAll,Av f vs]
theorem HD(f:kY): ∀(vs:List AV) (j:Nat),(AV.renAll f vs)[j]?=(vs[j]?).map λv=>v.ren f
 | [],j=>by simp[AV.renAll]
 |v::vs,0=>rfl
 |v::vs,j+1=>by simpa[AV.renAll]using HD f vs j
theorem E9(f:kY): ∀(vs:List KV) (j:Nat),(KV.renAll f vs)[j]?=(vs[j]?).map λv=>v.ren f
 | [],j=>by simp[KV.renAll]
 |v::vs,0=>rfl
 |v::vs,j+1=>by simpa[KV.renAll]using E9 f vs j
theorem rR{live:List Nat}: ∀(tmps:List AV) (i:Nat),(bP live tmps i).length=tmps.length
 | [],_=>rfl
 |v::tmps,i=>by simp[bP,rR tmps]
theorem C7{live:List Nat}: ∀(tmps:List AV) (i j:Nat),(bP live tmps i)[j]?=(tmps[j]?).map λv=>bif eC (i+j) live then v else .goneV
 | [],i,j=>by simp[bP]
 |v::tmps,i,0=>by simp[bP]
 |v::tmps,i,j+1=>by
  simp only[bP,ym1,C7 tmps];rw[show i+1+j=i+(j+1) by omega]
theorem Ar{m:Nat}{vs ws:List AV}(h:AV.refsAll vs=AV.refsAll ws): ∀(n:Nat) (mem:aK),nL m vs n mem=nL m ws n mem
 |0,_=>rfl
 |n+1,mem=>by
  simp only[nL,h];cases i9 m (AV.refsAll ws++cJ mem) mem mem 0 with
  |none=>rfl
  |some q=>
   simp only;cases qO mem q.1 q.2 with
   |none=>rfl
   |some mem'=>simp only[yb,Ar h n mem']
theorem BH{m:Nat}{vs ws:List AV}(h:AV.refsAll vs=AV.refsAll ws): ∀(n:Nat) (mem:aK),sP m vs n mem=sP m ws n mem
 |0,_=>rfl
 |b+1,mem=>by simp only[sP,h,BH h b]
theorem D0{m:Nat}{vs ws:List AV}(h:AV.refsAll vs=AV.refsAll ws)(mem:aK):D3 m vs mem=D3 m ws mem:=by
 unfold D3;rw[BH h,Ar h]
theorem zT{keep:Bool}{old:List (Option Bool)}{live:List Nat}{st:zX}{k:zX->Option R}{tmps:List AV}(he:fJ st.env tmps)(hs:dR 0 live=true)(h:z9 (aS R) keep old live st k=some r):
  ∃N J,k N=some r/\LW keep old live ⟨tmps,aB st.mem⟩=some ⟨J,aB N.mem⟩/\fJ N.env J/\J.length=tmps.length:=by
 unfold z9 at h;obtain⟨vs,h,Z,hl,hj⟩:=qS he h;unfold Cp at h;obtain⟨H,h,M⟩:=Az h;simp only at h;rw[bZ]at h;obtain⟨hg,h⟩:=h;have K:AV.refsAll (bP live tmps 0)=KV.refsAll vs:=by
  rw[oM (suf:=live) (λa _=>lR) hs,Z,b9]
 rw[D0 (ws:=bP live tmps 0) (by rw[K,b9])]at M;generalize U:yI H (lA H (old.length+(KV.refsAll vs).length)) (p0 0 old.length++KV.refsAll vs) []=ids at h hg;refine⟨_,AV.renAll (oB old.length keep H ids) (bP live tmps 0),h,?_,?_,by rw[Av,rR]⟩
 ·have hc:wC keep old (bP live tmps 0) (aB st.mem)=some (AV.renAll (oB old.length keep H ids) (bP live tmps 0),aB (qT old.length keep (oB old.length keep H ids) H 0 ids)):=by
   unfold wC;rw[M];simp only[yb,K,Ct,sJ,sZ,AF,zK,U];rw[eK];exact⟨hg,rfl⟩
  simp only[LW,hc,yl]
 ·intro t;rcases Dk (live:=live) (vs:=KV.renAll (oB old.length keep H ids) vs) (t:=t)with W|⟨j,v,W,h2,h3⟩
  ·exact .inl W
  ·right;rw[E9]at h2;obtain⟨v0,Y,rfl⟩:=ye.1 h2;obtain⟨hlt,w,hw,O,htw⟩:=hj j t W;rw[Y]at hw;obtain rfl:=ya hw;have V:eC t live=true:=lR.2 (yk W);simp only[h3];refine⟨?_,?_⟩
   ·rw[bA,HD,C7,yc1,V,htw];simp only[yg,yl,wO]
   ·cases hg2:gK (v0.ren (oB old.length keep H ids)).down with
    |false=>rfl
    |true=>
     exfalso;have:=pF.1 hg2;cases v0<;>simp only[KV.ren]at this<;>first|exact O rfl|cases this|(split at this<;>cases this)
theorem QX{i c:Nat}{β ag:Bool}{T:Ty}{J:List (den T)}{hs:c7}{nb:Nat}{k:KV->c7->List KRow->Option R}{xs:List PV}{p q:PV}
  (K:xs[i]?=some p) (M:p.cells[c]?=some q) (H:q=dS ag T J) (h:Dm (aS R) true i c (.tsl β ag T J) hs nb k=some r):
  ∃a hs' rows,k a hs' rows=some r/\∃v,pJ true xs i c (.sl 0 0) (bB hs) nb=some (v,bB hs',rows.map KRow.down):=by
 unfold Dm at h;unfold pJ;simp only[K,M,yb,yP];cases hf:m9 c hs with
 |some N=>
  rw[hf]at h;simp only[real_guard]at h;rw[bZ]at h;refine⟨_,_,_,h.2,N.2.down,?_⟩;simp only[yl];rw[eK];exact⟨h.1,rfl⟩
 |none=>
  rw[hf]at h;simp only[yg]at h;refine⟨_,_,_,h,.msw nb 0,?_⟩;simp only[Option.map_none,AB,yh];rw[eK];exact⟨rfl,by rw[H,HW];rfl⟩
theorem MP{s:KV}{n c:Nat}{k:aF->Option R}(h:Kv (aS R) mem s n c k=some r): ∃mem',k mem'=some r/\GA (aB mem) s.down n c=some (aB mem'):=by
 unfold Kv at h;split at h
 ·rename_i b g;obtain⟨O,M,h⟩:=fF h;split at h
  ·rename_i T xs hs K;simp only[real_getN]at h;rw[FJ]at h;obtain⟨x,W,h⟩:=h;split at h
   ·rename_i β ag Y Z H;rw[bA]at H;obtain⟨y,V,N⟩:=(dH.of true T x).2 _ _ H;have J:y=dS ag Y Z:=by
     rcases N with ⟨_,_,e,_⟩|⟨_,e,_⟩|⟨_,e,_⟩|⟨_,_,_,e,rfl⟩<;>cases e
     rfl
    have U:(xs.map (cR (fB T) T))[n]?=some (cR (fB T) T x):=by rw[yg1,W];rfl
    obtain⟨_,hs',rows,h,v,hr⟩:=QX U (by rw[cG];exact V) J h;refine⟨_,h,?_⟩;have hd:O.down.row= .own T.size (xs.map (cR (fB T) T)) (bB hs):=by rw[show O.down.row=O.row.down from rfl,K];rfl
    simp only[KV.down,GA,M,yb,hd];rw[eG,hr,yl,JK,oP,sF];rfl
   ·cases h
  ·cases h
 ·cases h
theorem Qf{off:Nat}{v:KV}{k:KV->Option R}(h:RS mem off v k=some r): ∃s,k s=some r/\RZ (aB mem) off v.down=some s.down:=by
 unfold RS at h;split at h
 ·rename_i b g i c;obtain⟨x,N,h⟩:=cE h;split at h
  ·rename_i e cs H;split at h
   ·rename_i v K;rw[bA]at K;refine⟨v,h,?_⟩;have M:x.down.row= .cells e (KV.downs cs):=by rw[show x.down.row=x.row.down from rfl,H];rfl
    simp only[KV.down,RZ,N,yb,M];exact nT K
   ·cases h
  ·cases h
 ·rename_i J;refine⟨v,h,?_⟩;cases v with
  |ptr b g i c=>exact(J _ _ _ _ rfl).elim
  |_=>rfl
theorem PY{off:Nat}{v:KV}{k:aF->Option R}(h:Kn mem off v k=some r): ∃mem',k mem'=some r/\CM (aB mem) off v.down=some (aB mem'):=by
 unfold Kn at h;split at h
 ·rename_i b g i c;obtain⟨x,K,h⟩:=cE h;split at h
  ·rename_i e cs H;have M:x.down.row= .cells e (KV.downs cs):=by rw[show x.down.row=x.row.down from rfl,H];rfl
   split at h
   ·rename_i W N hc;rw[bA]at hc;obtain⟨y,U,h⟩:=cE h;refine⟨_,h,?_⟩;simp only[KV.down,CM,K,yb,M,nT hc,U,yl];rw[oP,show y.down.row=y.row.down from rfl,pN,d8];simp only[yl,dE.down,KRow.down,y8,KV.down]
   ·rename_i J;refine⟨_,h,?_⟩;simp only[KV.down,CM,K,yb,M];split
    ·rename_i W N hc;rw[cQ,yg1]at hc;rw[bA]at J;obtain⟨v,V,O⟩:=ye.1 hc;cases v<;>simp[KV.down,AV.dead,AV.goneV,AV.unkB]at O;exact(J _ _ V).elim
    ·rfl
  ·cases h
 ·cases h
theorem Qc{env:Nat->KV}{tmps:List AV}(M:fJ env tmps){q:Operand×Nat×Operand×Nat}{k:aF->Option R}(h:Q6 (aS R) env mem q k=some r): ∃mem',k mem'=some r/\My tmps (aB mem) q=some (aB mem'):=by
 unfold Q6 at h;obtain⟨p,K,h,_⟩:=aU M h;cases H:Nat.beq q.2.2.2 999 with
 |true=>
  rw[H]at h;obtain⟨mem',J,ht⟩:=PY h;exact⟨mem',J,by simp only[My,K,yb,H,yg];exact ht⟩
 |false=>
 rw[H,yh]at h;obtain⟨s,h,hs⟩:=Qf h;obtain⟨v,N,h,_⟩:=aU M h;split at h
 ·rename_i kd n;simp only[real_guard]at h;rw[bZ]at h;obtain⟨mem',J,ht⟩:=MP h.2;refine⟨mem',J,?_⟩;simp only[My,K,hs,N,H,yh,yb,KV.down];rw[eK];exact⟨h.1,ht⟩
 ·cases h
theorem HM{env:Nat->KV}{tmps:List AV}(K:fJ env tmps): ∀{l:List (Operand×Nat×Operand×Nat)} {mem:aF} {k:aF->Option R},Ju (aS R) env l mem k=some r->∃mem',k mem'=some r/\CO tmps l (aB mem)=some (aB mem')
 | [],mem,k,h=>⟨mem,h,rfl⟩
 |q::l,mem,k,h=>by
  simp only[Ju]at h;obtain⟨J,h,M⟩:=Qc K h;obtain⟨H,h,N⟩:=HM K h;exact⟨H,h,by simp only[CO,M,yb,N]⟩
theorem C4{an:nB}{rid:Nat}{old:List (Option Bool)}{st:zX}{k:zX->Option R}{tmps:List AV}(he:fJ st.env tmps)(h:E5 (aS R) an rid old st k=some r):
  ∃M H,k M=some r/\z5 an rid old ⟨tmps,aB st.mem⟩=some ⟨H,aB M.mem⟩/\fJ M.env H/\H.length=tmps.length:=by
 unfold E5 at h;unfold z5;cases hq:dB rid an.tidy with
 |none=>rw[hq]at h;exact⟨st,tmps,h,rfl,he,rfl⟩
 |some q=>
  rw[hq]at h;simp only at h⊢
  rw[bZ]at h;obtain⟨hs,h⟩:=h;obtain⟨vs,h,W,hl,hj⟩:=qS he h;obtain⟨mem1,h,J⟩:=Az h;have K:AV.refsAll (bP q.1 tmps 0)=KV.refsAll vs:=by
   rw[oM (suf:=q.1) (λa _=>lR) hs,W,b9]
  rw[D0 (ws:=bP q.1 tmps 0) (by rw[K,b9])]at J;have U:fJ (dW q.1 vs) (bP q.1 tmps 0):=by
   intro t;rcases Dk (live:=q.1) (vs:=vs) (t:=t)with V|⟨j,v,V,h2,h3⟩
   ·exact .inl V
   ·right;obtain⟨hlt,w,hw,N,htw⟩:=hj j t V;rw[h2]at hw;obtain rfl:=ya hw;have O:eC t q.1=true:=lR.2 (yk V);rw[h3];refine⟨by rw[bA,C7,yc1,O,htw];rfl,?_⟩;cases Y:gK v.down with
    |false=>rfl
    |true=>exact(N (pF.1 Y)).elim
  obtain⟨mem2,h,Z⟩:=HM U h;refine⟨_,bP q.1 tmps 0,h,?_,U,rR _ _⟩;rw[J,yb,Z,yl]
end
end Go.Ab
