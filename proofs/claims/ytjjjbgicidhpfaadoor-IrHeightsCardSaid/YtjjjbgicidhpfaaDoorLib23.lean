import Derived.Test.YtjjjbgicidhpfaaDoorLib22
set_option linter.unusedVariables false
set_option linter.unusedSectionVars false
set_option linter.unusedSimpArgs false
namespace Go.Ab
variable [cS]
section
variable {P:Program} {R R1:Type} {r:R} {r1:R1} {mem:aH} {tab:TypeId->Option TI} {C:cC} {tbl:FuncId->List aG}
theorem GS: ∀(wr:List (Nat×dW)) (mem:aH),aD (A3 mem wr)=aR (aD mem) (wr.map λq=>(q.1,q.2.down))
 | [],mem=>rfl
 |(b,x)::wr,mem=>by
  simp only[A3,yl2,aR,eS];rw[GS wr];congr 1;simp[aD,List.map_set]
theorem Pb(o:bK)(mem:aH):aD (o.apply mem)=o.down.apply (aD mem):=by
 unfold bK.apply dY.apply;have:aD (A3 mem o.wr++o.push)=aD (A3 mem o.wr)++aD o.push:=by simp[aD]
 rw[this,GS];rfl
theorem Jc(v:KV):q6 v.down=Mi v:=by
 cases v<;>rfl
theorem Da(x:dW):jY x.down=Ea x:=by
 obtain⟨g,f,row⟩:=x;cases row with
 |os=>rfl
 |ts β ag T xs=>
  unfold jY Ea dW.down KRow.down;simp only;cases eJ ag T xs<;>rfl
 |cells e cs=>
  show some (g,e,(KV.downs cs).map q6)=some (g,e,cs.map Mi);rw[dD,List.map_map];congr 3;exact List.map_congr_left λv _=>Jc v
theorem z7(mem:aH)(b:Nat):bF (aD mem) b=qF mem b:=by
 unfold bF qF;rw[bH,fT];cases mem[b]? with
 |none=>rfl
 |some x=>
  cases x with
  |none=>rfl
  |some x=>exact Da x
theorem JC(mem:aH)(wr:List (Nat×dW)):s8 (aD mem) (wr.map λq=>(q.1,q.2.down))=B8 mem wr:=by
 funext b;unfold s8 B8;rw[List.all_map];congr 1;funext q;simp only[Function.comp,Da,z7]
theorem Sp(op:Op)(mem:aH)(v:KV)(rd:List Nat):Rz op (aD mem) v.down rd=Tp op mem v rd:=by
 unfold Rz Tp;rw[Jc];congr 1;rcases rd with _|⟨b,_|⟨c,r⟩⟩
 ·rfl
 ·simp only[z7];cases qF mem b<;>rfl
 ·rfl
theorem VF(o:bK)(mk:Bool)(rs i:Nat)(op:Op)(mem:aH):o.down.tr mk rs i op (aD mem)=o.tr mk rs i op mem:=by
 unfold dY.tr bK.tr;simp only[bK.down,List.map_map,Sp,JC];congr 1;cases o.push<;>rfl
theorem Pk(mem:aH)(rs:Nat):Bw (aD mem) rs=MN mem rs:=by
 unfold Bw MN;rw[bH,fT];cases mem[rs]? with
 |none=>rfl
 |some x=>cases x<;>rfl
theorem K6: ∀mem:aH,trim (aD mem)=aD (Kp mem)
 | []=>rfl
 |x::m=>by
  have H:=K6 m
  show(match trim (aD m)with| []=>bif Q1 (x.map dW.down)then []else [x.map dW.down]|y=>x.map dW.down::y)=_
  rw[H];simp only[Kp];cases Kp m with
  |nil=>cases x<;>rfl
  |cons y ys=>rfl
theorem gJ.set{env:Nat->KV}{tmps:List AV}(h:gJ env tmps){d:Nat}(M:d<tmps.length)(v:KV):gJ (qC env d v) (wM v.down tmps d):=by
 intro t;unfold qC;cases ht:Nat.beq t d with
 |true=>
  obtain rfl:=nb.1 ht;simp only[yh];cases N:iP v.down with
  |true=>exact .inl (rA.1 N)
  |false=>exact .inr ⟨by rw[bH,eS,yt M],rfl⟩
 |false=>
  simp only[yg];have H:t≠d:=λe=>by rw[e,yr3]at ht;cases ht
  rcases h t with J|⟨J,K⟩
  ·exact .inl J
  ·refine .inr ⟨?_,K⟩;rw[bH,eS,yp (λe=>H e.symm),<-bH];exact J
theorem gJ.put{env:Nat->KV}{tmps:List AV}(h:gJ env tmps){dst:Option Tmp}(H: ∀d,dst=some d->d<tmps.length)(v:KV):gJ (BS env dst v) (pO tmps dst v.down):=by
 cases dst with
 |none=>exact h
 |some d=>exact h.set (H d rfl) v
theorem qY(tmps:List AV)(dst:Option Tmp)(v:AV):(pO tmps dst v).length=tmps.length:=by
 cases dst<;>simp[pO,eS]
theorem Sa{h:Option Int}{v:KV}{k:KV->Option R}{k1:AV->Option R1}(J: ∀w,k w=some r->k1 w.down=some r1)(H:QW (aZ R) h v k=some r):Cw h v.down k1=some r1:=by
 unfold QW at H;split at H
 ·exact J _ H
 ·split at H
  ·simp only[real_guard]at H;rw[cJ]at H;simp only[KV.down,Cw,e9];exact⟨H.1,J _ H.2⟩
  ·cases H
theorem I0(ht:b9 P tab)(hC:I2 C tbl){an:o5}{tk:Bool}{rid:Nat}{W:List (Option Tmp)}: ∀{ops:List Oper} {i rs:Nat} {st:BC} {tr:List Tr} {k:BC->List Tr->Option R} {k1:St->List Tr->Option R1} {tmps:List AV},
  (∀o∈ops,∀d,o.dst=some d->d<tmps.length)->gJ st.env tmps->Qc (aZ R) tab tbl an tk rid W ops i rs st tr k=some r->
  (∀N O J,k N O=some r->gJ N.env J->J.length=tmps.length->k1 ⟨J,aD N.mem⟩ O=some r1)->yM P C an tk rid W ops i rs ⟨tmps,aD st.mem⟩ tr k1=some r1
 | [],i,rs,st,tr,k,k1,tmps,hd,he,h,hk=>hk _ _ _ h he rfl
 |o::ops,i,rs,st,tr,k,k1,tmps,hd,he,h,hk=>by
  have run: ∀{env:Nat->KV} {H:List AV},gJ env H->H.length=tmps.length->
    (bif (bif eR o.op then MN st.mem rs else true) then UG (aZ R) tab tbl (bP rid i an.own) tk (bP rid i an.boxed) (bP rid i an.raw) (bP rid i an.vars) o env st.mem rs fun out =>
     QW (aZ R) (Fh rid i an.hint) out.v λv=>Qc (aZ R) tab tbl an tk rid W ops (i+1) (bif eR o.op then rs+1 else rs) ⟨BS env o.dst v,out.apply st.mem⟩ (out.tr (eR o.op) rs i o.op st.mem::tr) k else none)=some r->
    guardB (bif eR o.op then Bw (aD st.mem) rs else true) ((Kf P C (bP rid i an.own) tk (bP rid i an.boxed) (bP rid i an.raw) (bP rid i an.vars) o (cN H) (aD st.mem) rs).bind λout=>
     Cw (Fh rid i an.hint) out.v λv=>yM P C an tk rid W ops (i+1) (bif eR o.op then rs+1 else rs) {tmps:=pO H o.dst v,mem:=out.apply (aD st.mem)} (out.tr (eR o.op) rs i o.op (aD st.mem)::tr) k1)=some r1:=by
   intro env H K Z h;rw[cJ]at h;obtain⟨hm,h⟩:=h;obtain⟨out,h,hop⟩:=Th ht hC K h;rw[e9];refine⟨by rw[Pk];exact hm,?_⟩;rw[hop];simp only[ya];refine Sa (λw hw=>?_) h;rw[VF,<-Pb];exact I0 ht hC (st:=⟨BS env o.dst w,out.apply st.mem⟩) (tmps:=pO H o.dst w.down) (λo' Y d M=>by rw[qY,Z];exact hd o' (yk _ Y) d M)
    (K.put (λd M=>by rw[Z];exact hd o (yn ..) d M) w) hw (λN O J h1 h2 h3=>hk N O J h1 h2 (by rw[h3,qY,Z]))
  have skip: ∀{env:Nat->KV} {H:List AV},gJ env H->H.length=tmps.length->Qc (aZ R) tab tbl an tk rid W ops (i+1) (bif eR o.op then rs+1 else rs) ⟨BS env o.dst (.lit undef),st.mem⟩ tr k=some r->
    yM P C an tk rid W ops (i+1) (bif eR o.op then rs+1 else rs) {tmps:=pO H o.dst (.lit undef),mem:=aD st.mem} tr k1=some r1:=by
   intro env H K Z h;exact I0 ht hC (st:=⟨BS env o.dst (.lit undef),st.mem⟩) (tmps:=pO H o.dst (.lit undef)) (λo' Y d M=>by rw[qY,Z];exact hd o' (yk _ Y) d M)
    (K.put (λd M=>by rw[Z];exact hd o (yn ..) d M) (.lit undef)) h (λN O J h1 h2 h3=>hk N O J h1 h2 (by rw[h3,qY,Z]))
  simp only[Qc]at h;simp only[yM];cases hgd:o.guard with
  |none=>
   rw[hgd]at h;exact run he rfl h
  |some q=>
   obtain⟨j,V⟩:=q;rw[hgd]at h;simp only at h⊢
   rw[bH]at h;cases hds:W[j]? with
   |none=>rw[hds]at h;cases h
   |some dd=>
    rw[hds]at h;cases dd with
    |none=>cases h
    |some d=>
     simp only at h⊢
     have hed:=he d;cases hv:st.env d with
     |lit v=>
      rw[hv]at h hed;rcases hed with h0|⟨h0,_⟩
      ·cases h0
      ·have hlt:d<tmps.length:=by rw[bH]at h0;exact(yd.1 h0).1
       rw[h0];cases v with
       |bool b=>
        simp only[KV.down,real_ite]at h⊢
        cases b with
        |true=>
         simp only[yh]at h⊢
         have K:=he.set hlt (.lit (.bool true));have U:(wM (KV.lit (.bool true)).down tmps d).length=tmps.length:=by rw[eS];simp
         cases V with
         |true=>exact run K U h
         |false=>exact skip K U h
        |false=>
         simp only[yg]at h⊢
         have K:=he.set hlt (.lit (.bool false));have U:(wM (KV.lit (.bool false)).down tmps d).length=tmps.length:=by rw[eS];simp
         cases V with
         |true=>exact skip K U h
         |false=>exact run K U h
       |tuple vs=>exact skip he rfl h
       |_=>cases h
     |_=>rw[hv]at h;cases h
theorem yY(ht:b9 P tab)(hC:I2 C tbl){an:o5}{rid:Nat}{ops:Array Oper}{K:Bool}{st:BC}{k:BC->Option R}{k1:St->Option R1}{tmps:List AV}(O: ∀o∈ops.toList,∀d,o.dst=some d->d<tmps.length)(Y:gJ st.env tmps)
  (h:rN (aZ R) tab tbl an rid ops K st k=some r) (W: ∀J H,k J=some r->gJ J.env H->H.length=tmps.length->k1 ⟨H,aD J.mem⟩=some r1):kS P C an rid ops K ⟨tmps,aD st.mem⟩ k1=some r1:=by
 unfold rN at h;unfold kS;simp only at h⊢
 have hm:aD st.mem++List.replicate (rV ops.toList) none=aD (st.mem++List.replicate (rV ops.toList) none):=by simp[aD]
 rw[e8,hm];refine I0 ht hC (st:=⟨st.env,st.mem++List.replicate (rV ops.toList) none⟩) O Y h λJ V H M U N=>?_;rw[cJ]at M;rw[e9];refine⟨M.1,?_⟩;simp only;rw[K6];exact W ⟨J.env,Kp J.mem⟩ H M.2 U N
theorem nG{b:Nat}: ∀{l:List Nat},eY b l=true↔b∈l
 | []=>by simp[eY]
 |a::l=>by
  simp only[eY,yh2,nb,nG (l:=l),yk1];exact⟨λh=>h.imp Eq.symm id,λh=>h.imp Eq.symm id⟩
theorem Cu: ∀{l:List Nat} {n a:Nat},eG n l=true->a∈l->n≤a
 |b::l,n,a,h,H=>by
  simp only[eG,yc]at h;have J:=nl.1 h.1;cases H with
  |head=>exact J
  |tail _ H=>have:=Cu h.2 H;omega
def r5(tmps:List AV)(i:Nat):List Nat->List AV
 | []=> []
 |a::l=>(tmps[a-i]?).toList++r5 tmps i l
theorem pV{live:List Nat}: ∀{tmps:List AV} {i:Nat} {suf:List Nat},(∀a,i≤a->(eY a live=true↔a∈suf))->eG i suf=true->AV.refsAll (b6 live tmps i)=AV.refsAll (r5 tmps i suf)
 | [],i,suf,h,hs=>by
  have:r5 [] i suf= []:=by
   clear h hs
   induction suf with
   |nil=>rfl
   |cons a l N=>simp[r5,N]
  rw[this];rfl
 |v::tmps,i,suf,h,hs=>by
  have H: ∀{l:List Nat},eG (i+1) l=true->r5 (v::tmps) i l=r5 tmps (i+1) l:=by
   intro l
   induction l with
   |nil=>intro _;rfl
   |cons a l N=>
    intro M;have O:=Cu M (yn ..);simp only[eG,yc]at M;simp only[r5];rw[N (incFrom_mono M.2 (by omega))];rw[show a-i=(a-(i+1))+1 by omega,yo1]
  cases suf with
  |nil=>
   have hn:eY i live=false:=by
    cases hm:eY i live with
    |false=>rfl
    |true=>have:=(h i (yb1 _)).1 hm;cases this
   simp only[b6,hn,yg,AV.refsAll];rw[pV (suf:= []) (λa ha=>h a (by omega)) rfl];rfl
  |cons a l=>
   have hs':=hs;simp only[eG,yc]at hs;have V:=nl.1 hs.1;by_cases e:a=i
   ·subst e;have hm:eY a live=true:=(h a (yb1 _)).2 (yn ..);simp only[b6,hm,yh,AV.refsAll];rw[pV (suf:=l) (λb W=>?_) hs.2]
    ·simp only[r5,Nat.sub_self,yj3,Option.toList_some,List.singleton_append,AV.refsAll];rw[H hs.2]
    ·rw[h b (by omega)];constructor
     ·intro K;cases K with
      |head=>omega
      |tail _ x=>exact x
     ·exact λx=>yk _ x
   ·have hn:eY i live=false:=by
     cases hm:eY i live with
     |false=>rfl
     |true=>
      have U:=(h i (yb1 _)).1 hm;have h2:=Cu (l:=a::l) (n:=a) (by simp only[eG,yc];exact⟨nl.2 (yb1 _),hs.2⟩) U;omega
    have J:eG (i+1) (a::l)=true:=by simp only[eG,yc];exact⟨nl.2 (by omega),hs.2⟩
    simp only[b6,hn,yg,AV.refsAll];rw[pV (suf:=a::l) (λb W=>h b (by omega)) J,H J];rfl
 where
 incFrom_mono: ∀{l:List Nat} {n m:Nat},eG n l=true->m≤n->eG m l=true
  | [],_,_,_,_=>rfl
  |a::l,n,m,h,hm=>by
   simp only[eG,yc]at h⊢
   exact⟨nl.2 (yv2 hm (nl.1 h.1)),h.2⟩
theorem s6{env:Nat->KV}{tmps:List AV}(N:gJ env tmps): ∀{live:List Nat} {k:List KV->Option R},w8 env (live.map .tmp) k=some r->
  ∃vs,k vs=some r/\r5 tmps 0 live=KV.downs vs/\vs.length=live.length/\(∀(j t:Nat),live[j]?=some t->t<tmps.length/\∃v:KV,vs[j]?=some v/\v≠ .gone/\tmps[t]?=some v.down)
 | [],k,h=>⟨[],h,rfl,rfl,by simp⟩
 |t::live,k,h=>by
  simp only[yl2,w8]at h;obtain⟨v,H,h,U⟩:=a8 N h;obtain⟨vs,h,K,W,O⟩:=s6 N h;have ht:tmps[t]?=some v.down:=by
   simp only[cN,He]at H;rw[bH,Hx]at H;obtain⟨w,V,H⟩:=H;cases J:iP w with
   |true=>rw[J]at H;cases H
   |false=>rw[J]at H;rw[V];exact H
  refine⟨v::vs,h,by simp[r5,ht,K,KV.downs],by simp[W],λj u M=>?_⟩;cases j with
  |zero=>
   obtain rfl:=yb M;exact⟨(yd.1 ht).1,v,rfl,U,ht⟩
  |succ j=>exact O j u (by simpa using M)
theorem FM: ∀{live:List Nat} {vs:List KV} {t:Nat},eK live vs t= .gone\/∃(j:Nat) (v:KV),live[j]?=some t/\vs[j]?=some v/\eK live vs t=v
 | [],vs,t=> .inl (by cases vs<;>rfl)
 |a::live,[],t=> .inl rfl
 |a::live,v::vs,t=>by
  simp only[eK];cases H:Nat.beq t a with
  |true=>obtain rfl:=nb.1 H;exact .inr ⟨0,v,rfl,rfl,rfl⟩
  |false=>
   simp only[yg];rcases FM (live:=live) (vs:=vs) (t:=t)with h|⟨j,w,M,K,J⟩
   ·exact .inl h
   ·exact .inr ⟨j+1,w,M,K,J⟩
theorem BN(f:mS): ∀vs:List AV,(AV.renAll f vs).length=vs.length
 | []=>rfl
 |v::vs=>by simp[AV.renAll,BN f vs]
theorem JG(f:mS): ∀(vs:List AV) (j:Nat),(AV.renAll f vs)[j]?=(vs[j]?).map λv=>v.ren f
 | [],j=>by simp[AV.renAll]
 |v::vs,0=>rfl
 |v::vs,j+1=>by simpa[AV.renAll]using JG f vs j
theorem GT(f:mS): ∀(vs:List KV) (j:Nat),(KV.renAll f vs)[j]?=(vs[j]?).map λv=>v.ren f
 | [],j=>by simp[KV.renAll]
 |v::vs,0=>rfl
 |v::vs,j+1=>by simpa[KV.renAll]using GT f vs j
theorem vJ{live:List Nat}: ∀(tmps:List AV) (i:Nat),(b6 live tmps i).length=tmps.length
 | [],_=>rfl
 |v::tmps,i=>by simp[b6,vJ tmps]
theorem Ez{live:List Nat}: ∀(tmps:List AV) (i j:Nat),(b6 live tmps i)[j]?=(tmps[j]?).map λv=>bif eY (i+j) live then v else .goneV
 | [],i,j=>by simp[b6]
 |v::tmps,i,0=>by simp[b6]
 |v::tmps,i,j+1=>by
  simp only[b6,yo1,Ez tmps];rw[show i+1+j=i+(j+1) by omega]
theorem Bn{m:Nat}{vs ws:List AV}(h:AV.refsAll vs=AV.refsAll ws): ∀(n:Nat) (mem:aO),pA m vs n mem=pA m ws n mem
 |0,_=>rfl
 |n+1,mem=>by
  simp only[pA,h];cases kK m (AV.refsAll ws++cV mem) mem mem 0 with
  |none=>rfl
  |some q=>
   simp only;cases sQ mem q.1 q.2 with
   |none=>rfl
   |some mem'=>simp only[ya,Bn h n mem']
theorem Dk{m:Nat}{vs ws:List AV}(h:AV.refsAll vs=AV.refsAll ws): ∀(n:Nat) (mem:aO),wR m vs n mem=wR m ws n mem
 |0,_=>rfl
 |b+1,mem=>by simp only[wR,h,Dk h b]
theorem GK{m:Nat}{vs ws:List AV}(h:AV.refsAll vs=AV.refsAll ws)(mem:aO):GY m vs mem=GY m ws mem:=by
 unfold GY;rw[Dk h,Bn h]
theorem AK{keep:Bool}{old:List (Option Bool)}{live:List Nat}{st:BC}{k:BC->Option R}{tmps:List AV}(he:gJ st.env tmps)(hs:eG 0 live=true)(h:BA (aZ R) keep old live st k=some r):
  ∃O J,k O=some r/\NG keep old live ⟨tmps,aD st.mem⟩=some ⟨J,aD O.mem⟩/\gJ O.env J/\J.length=tmps.length:=by
 unfold BA at h;obtain⟨vs,h,hvs,hl,hj⟩:=s6 he h;unfold E1 at h;obtain⟨H,h,M⟩:=Cv h;simp only at h;rw[cJ]at h;obtain⟨hg,h⟩:=h;have K:AV.refsAll (b6 live tmps 0)=KV.refsAll vs:=by
  rw[pV (suf:=live) (λa _=>nG) hs,hvs,cL]
 rw[GK (ws:=b6 live tmps 0) (by rw[K,cL])]at M;generalize U:Av H (nC H (old.length+(KV.refsAll vs).length)) (sF 0 old.length++KV.refsAll vs) []=ids at h hg;refine⟨_,AV.renAll (qD old.length keep H ids) (b6 live tmps 0),h,?_,?_,by rw[BN,vJ]⟩
 ·have hc:At keep old (b6 live tmps 0) (aD st.mem)=some (AV.renAll (qD old.length keep H ids) (b6 live tmps 0),aD (sT old.length keep (qD old.length keep H ids) H 0 ids)):=by
   unfold At;rw[M];simp only[ya,K,Fz,vW,v9,B4,Ba,U];rw[e9];exact⟨hg,rfl⟩
  simp only[NG,hc,yl]
 ·intro t;rcases FM (live:=live) (vs:=KV.renAll (qD old.length keep H ids) vs) (t:=t)with W|⟨j,v,W,h2,h3⟩
  ·exact .inl W
  ·right;rw[GT]at h2;obtain⟨v0,hv0,rfl⟩:=yf.1 h2;obtain⟨hlt,w,hw,N,Z⟩:=hj j t W;rw[hv0]at hw;obtain rfl:=yb hw;have V:eY t live=true:=nG.2 (yj W);simp only[h3];refine⟨?_,?_⟩
   ·rw[bH,JG,Ez,ye1,V,Z];simp only[yh,yl,Ak]
   ·cases Y:iP (v0.ren (qD old.length keep H ids)).down with
    |false=>rfl
    |true=>
     exfalso;have:=rA.1 Y;cases v0<;>simp only[KV.ren]at this<;>first|exact N rfl|cases this|(split at this<;>cases this)
theorem RU{i c:Nat}{β ag:Bool}{T:Ty}{J:List (den T)}{hs:dL}{nb:Nat}{k:KV->dL->List KRow->Option R}{xs:List PV}{p q:PV}
  (N:xs[i]?=some p) (M:p.cells[c]?=some q) (H:q=eJ ag T J) (h:E6 (aZ R) true i c (.tsl β ag T J) hs nb k=some r):
  ∃a hs' rows,k a hs' rows=some r/\∃v,qZ true xs i c (.sl 0 0) (bI hs) nb=some (v,bI hs',rows.map KRow.down):=by
 unfold E6 at h;unfold qZ;simp only[N,M,ya,z6];cases hf:oZ c hs with
 |some K=>
  rw[hf]at h;simp only[real_guard]at h;rw[cJ]at h;refine⟨_,_,_,h.2,K.2.down,?_⟩;simp only[yl];rw[e9];exact⟨h.1,rfl⟩
 |none=>
  rw[hf]at h;simp only[yh]at h;refine⟨_,_,_,h,.msw nb 0,?_⟩;simp only[Option.map_none,B9,yg];rw[e9];exact⟨rfl,by rw[H,Jt];rfl⟩
theorem Oz{s:KV}{n c:Nat}{k:aH->Option R}(h:LX (aZ R) mem s n c k=some r): ∃mem',k mem'=some r/\HX (aD mem) s.down n c=some (aD mem'):=by
 unfold LX at h;split at h
 ·rename_i b g;obtain⟨O,N,h⟩:=gE h;split at h
  ·rename_i T xs hs K;simp only[real_getN]at h;rw[Hx]at h;obtain⟨x,V,h⟩:=h;split at h
   ·rename_i β ag Y U H;rw[bH]at H;obtain⟨y,Z,M⟩:=(dZ.of true T x).2 _ _ H;have J:y=eJ ag Y U:=by
     rcases M with ⟨_,_,e,_⟩|⟨_,e,_⟩|⟨_,e,_⟩|⟨_,_,_,e,rfl⟩<;>cases e
     rfl
    have hp:(xs.map (c9 (gF T) T))[n]?=some (c9 (gF T) T x):=by rw[yh1,V];rfl
    obtain⟨_,hs',rows,h,v,hr⟩:=RU hp (by rw[cU];exact Z) J h;refine⟨_,h,?_⟩;have W:O.down.row= .own T.size (xs.map (c9 (gF T) T)) (bI hs):=by rw[show O.down.row=O.row.down from rfl,K];rfl
    simp only[KV.down,HX,N,ya,W];rw[e8,hr,yl,LB,pX,vV];rfl
   ·cases h
  ·cases h
 ·cases h
theorem SF{off:Nat}{v:KV}{k:KV->Option R}(h:Tq mem off v k=some r): ∃s,k s=some r/\TN (aD mem) off v.down=some s.down:=by
 unfold Tq at h;split at h
 ·rename_i b g i c;obtain⟨x,M,h⟩:=cR h;split at h
  ·rename_i e cs H;split at h
   ·rename_i v K;rw[bH]at K;refine⟨v,h,?_⟩;have N:x.down.row= .cells e (KV.downs cs):=by rw[show x.down.row=x.row.down from rfl,H];rfl
    simp only[KV.down,TN,M,ya,N];exact pR K
   ·cases h
  ·cases h
 ·rename_i J;refine⟨v,h,?_⟩;cases v with
  |ptr b g i c=>exact(J _ _ _ _ rfl).elim
  |_=>rfl
theorem SA{off:Nat}{v:KV}{k:aH->Option R}(h:LJ mem off v k=some r): ∃mem',k mem'=some r/\Eu (aD mem) off v.down=some (aD mem'):=by
 unfold LJ at h;split at h
 ·rename_i b g i c;obtain⟨x,K,h⟩:=cR h;split at h
  ·rename_i e cs J;have M:x.down.row= .cells e (KV.downs cs):=by rw[show x.down.row=x.row.down from rfl,J];rfl
   split at h
   ·rename_i N W hc;rw[bH]at hc;obtain⟨y,V,h⟩:=cR h;refine⟨_,h,?_⟩;simp only[KV.down,Eu,K,ya,M,pR hc,V,yl];rw[pX,show y.down.row=y.row.down from rfl,rB,eS];simp only[yl,dW.down,KRow.down,AM,KV.down]
   ·rename_i H;refine⟨_,h,?_⟩;simp only[KV.down,Eu,K,ya,M];split
    ·rename_i N W hc;rw[dD,yh1]at hc;rw[bH]at H;obtain⟨v,U,O⟩:=yf.1 hc;cases v<;>simp[KV.down,AV.dead,AV.goneV,AV.unkB]at O;exact(H _ _ U).elim
    ·rfl
  ·cases h
 ·cases h
theorem SB{env:Nat->KV}{tmps:List AV}(M:gJ env tmps){q:Operand×Nat×Operand×Nat}{k:aH->Option R}(h:T7 (aZ R) env mem q k=some r): ∃mem',k mem'=some r/\Ot tmps (aD mem) q=some (aD mem'):=by
 unfold T7 at h;obtain⟨p,K,h,_⟩:=a8 M h;cases H:Nat.beq q.2.2.2 999 with
 |true=>
  rw[H]at h;obtain⟨mem',J,ht⟩:=SA h;exact⟨mem',J,by simp only[Ot,K,ya,H,yh];exact ht⟩
 |false=>
 rw[H,yg]at h;obtain⟨s,h,hs⟩:=SF h;obtain⟨v,N,h,_⟩:=a8 M h;split at h
 ·rename_i kd n;simp only[real_guard]at h;rw[cJ]at h;obtain⟨mem',J,ht⟩:=Oz h.2;refine⟨mem',J,?_⟩;simp only[Ot,K,hs,N,H,yg,ya,KV.down];rw[e9];exact⟨h.1,ht⟩
 ·cases h
theorem Jv{env:Nat->KV}{tmps:List AV}(J:gJ env tmps): ∀{l:List (Operand×Nat×Operand×Nat)} {mem:aH} {k:aH->Option R},L6 (aZ R) env l mem k=some r->∃mem',k mem'=some r/\Fq tmps l (aD mem)=some (aD mem')
 | [],mem,k,h=>⟨mem,h,rfl⟩
 |q::l,mem,k,h=>by
  simp only[L6]at h;obtain⟨K,h,N⟩:=SB J h;obtain⟨H,h,M⟩:=Jv J h;exact⟨H,h,by simp only[Fq,N,ya,M]⟩
theorem Eo{an:o5}{rid:Nat}{old:List (Option Bool)}{st:BC}{k:BC->Option R}{tmps:List AV}(he:gJ st.env tmps)(h:F9 (aZ R) an rid old st k=some r):
  ∃N H,k N=some r/\Bl an rid old ⟨tmps,aD st.mem⟩=some ⟨H,aD N.mem⟩/\gJ N.env H/\H.length=tmps.length:=by
 unfold F9 at h;unfold Bl;cases hq:dS rid an.tidy with
 |none=>rw[hq]at h;exact⟨st,tmps,h,rfl,he,rfl⟩
 |some q=>
  rw[hq]at h;simp only at h⊢
  rw[cJ]at h;obtain⟨hs,h⟩:=h;obtain⟨vs,h,hvs,hl,hj⟩:=s6 he h;obtain⟨mem1,h,J⟩:=Cv h;have M:AV.refsAll (b6 q.1 tmps 0)=KV.refsAll vs:=by
   rw[pV (suf:=q.1) (λa _=>nG) hs,hvs,cL]
  rw[GK (ws:=b6 q.1 tmps 0) (by rw[M,cL])]at J;have U:gJ (eK q.1 vs) (b6 q.1 tmps 0):=by
   intro t;rcases FM (live:=q.1) (vs:=vs) (t:=t)with V|⟨j,v,V,h2,h3⟩
   ·exact .inl V
   ·right;obtain⟨hlt,w,hw,K,Y⟩:=hj j t V;rw[h2]at hw;obtain rfl:=yb hw;have O:eY t q.1=true:=nG.2 (yj V);rw[h3];refine⟨by rw[bH,Ez,ye1,O,Y];rfl,?_⟩;cases W:iP v.down with
    |false=>rfl
    |true=>exact(K (rA.1 W)).elim
  obtain⟨mem2,h,Z⟩:=Jv U h;refine⟨_,b6 q.1 tmps 0,h,?_,U,vJ _ _⟩;rw[J,ya,Z,yl]
end
end Go.Ab
