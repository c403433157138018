import Derived.Test.YtjjjbgicidhpfaaDoorLib4
set_option linter.unusedVariables false
set_option linter.unusedSectionVars false
set_option linter.unusedSimpArgs false
namespace Go.Ab
variable [cF]
section
variable {P:Program} {C:bX} {an:nB} {rid:Nat} {ops:Array Oper} {R:Type}
theorem P6{D:Nat->Bool}{n:Nat}(h: ∃i,i<n/\D i=false): ∃i,i<n/\D i=false/\∀j,j<i->D j=true:=by
 obtain⟨i,⟨J,K⟩,H⟩:=yL (p:=λi=>i<n/\D i=false) h;refine⟨i,J,K,λj hj=>?_⟩;cases hD:D j with
 |true=>rfl
 |false=>have:=H j ⟨by omega,hD⟩;omega
def left(D:Nat->Bool):Nat->Nat
 |0=>0
 |n+1=>left D n+(bif D n then 0 else 1)
theorem Iz{D:Nat->Bool}: ∀{n:Nat},left D n=0->∀i,i<n->D i=true
 |0,_,i,h=>by omega
 |n+1,h,i,hi=>by
  simp only[left]at h;rcases yl2 i n with H|H
  ·exact Iz (by omega) i H
  ·obtain rfl:i=n:=by omega
   cases hD:D i with
   |true=>rfl
   |false=>rw[hD]at h;simp at h
theorem MR{D D':Nat->Bool}{i:Nat}(hD:D i=false)(H:D' i=true)(hs: ∀j,j≠i->D' j=D j): ∀{n:Nat},(i<n->left D n=left D' n+1)/\(n≤i->left D n=left D' n)
 |0=>⟨λh=>by omega,λ_=>rfl⟩
 |n+1=>by
  obtain⟨M,K⟩:=MR hD H hs (n:=n);refine⟨λh=>?_,λh=>?_⟩
  ·simp only[left];rcases yl2 i n with J|J
   ·rw[M J,hs n (by omega)];omega
   ·obtain rfl:i=n:=by omega
    rw[K (ya1 _),hD,H];rfl
  ·simp only[left];rw[K (by omega),hs n (by omega)]
theorem Lg{D:Nat->Bool}: ∀{n:Nat},0<left D n->∃i,i<n/\D i=false
 |0,h=>by simp[left]at h
 |n+1,h=>by
  simp only[left]at h;cases hD:D n with
  |false=>exact⟨n,yy2 _,hD⟩
  |true=>
   rw[hD]at h;simp only[yg,yw1]at h;obtain⟨i,hi,H⟩:=Lg h;exact⟨i,by omega,H⟩
theorem QS(n:Nat):left (λ_=>false) n=n:=by
 induction n with
 |zero=>rfl
 |succ n H=>simp[left,H]
def kL(listed:Array Bool):Nat->Bool:=λi=>listed.getD i false
theorem Ue{x y:Option (Nat×Nat×Nat×Nat)}(h:U8 x y=true):x=y:=by
 unfold U8 at h;split at h
 ·rfl
 ·simp only[yc]at h;obtain⟨⟨⟨K,M⟩,H⟩,J⟩:=h;rw[bN.1 K,bN.1 M,bN.1 H,bN.1 J]
 ·cases h
theorem ON: ∀{x y:List (Option (Nat×Nat×Nat×Nat))},Tm x y=true->x=y
 | [],[],_=>rfl
 |x::xs,y::ys,h=>by
  simp only[Tm,yc]at h;rw[Ue h.1,ON h.2]
 | [],_::_,h=>by cases h
 |_::_,[],h=>by cases h
theorem Qe{x y:Option (Nat×Nat×List (Option (Nat×Nat×Nat×Nat)))}(h:Jp x y=true):x=y:=by
 unfold Jp at h;split at h
 ·simp only[yc]at h;obtain⟨⟨J,K⟩,H⟩:=h;rw[bN.1 J,bN.1 K,ON H]
 ·cases h
theorem rI{b:Nat}{V:Option (Nat×Nat×List (Option (Nat×Nat×Nat×Nat)))}: ∀{wr:List (Nat×bK)} {m:aK},(∀q∈wr,q.1=b->iP q.2=V)->a8 m b=V->a8 (aN m wr) b=V
 | [],m,_,h=>h
 |(c,x)::wr,m,H,h=>by
  unfold aN;refine rI (λq K=>H q (yj _ K)) ?_;by_cases hc:c=b
  ·subst hc;by_cases J:c<m.length
   ·unfold a8;rw[yt J];exact H (c,x) (yn ..) rfl
   ·rw[List.set_eq_of_length_le (by omega)];exact h
  ·unfold a8;rw[yo hc];exact h
theorem Ah{b:Nat}{V:Option (Nat×Nat×List (Option (Nat×Nat×Nat×Nat)))}{e:kD}{d:Option Tmp}{st:St}(J:b<st.mem.length)(K: ∀q∈e.wr,q.1=b->iP q.2=V)(h:a8 st.mem b=V):a8 (e.app d st).mem b=V:=by
 have H:=rI K h;unfold kD.app;simp only;unfold a8 at H⊢
 rw[yq (by rw[bY];exact J)];exact H
theorem oG{b:Nat}{V:Option (Nat×Nat×List (Option (Nat×Nat×Nat×Nat)))}{D:Nat->Bool}: ∀{l:List (Oper×kD)} {i:Nat} {st:St},b<st.mem.length->(∀p∈l,∀q∈p.2.wr,q.1=b->iP q.2=V)->a8 st.mem b=V->a8 (cM D i l st).mem b=V
 | [],i,st,_,_,h=>h
 |(o,e)::l,i,st,K,J,h=>by
  simp only[cM];cases hD:D i with
  |true=>
   exact oG (by rw[yg,mE];omega) (λp H=>J p (yj _ H)) (Ah K (J (o,e) (yn ..)) h)
  |false=>exact oG K (λp H=>J p (yj _ H)) h
theorem GU{b:Nat}{all:List Tr}(K: ∀u∈all,b∉u.wr\/u.wk b=true): ∀{l:List (Oper×kD)} {i rs:Nat} {st:St},Fk P C an rid ops i rs st l->(∀p∈l,∀t,p.2.tr=some t->t∈all)->b<st.mem.length->
  ∀p∈l,∀q∈p.2.wr,q.1=b->iP q.2=a8 st.mem b
 | [],i,rs,st,_,_,_,p,M=>by cases M
 |(o,e)::l,i,rs,st,hc,hm,Z,p,M=>by
  cases hc with
  |cons _ _ _ _ _ _ h hr=>
  have H: ∀q∈e.wr,q.1=b->iP q.2=a8 st.mem b:=by
   intro q U J;cases h with
   |run out W ho hg=>
    rcases K _ (hm (o,_) (yn ..) _ rfl)with N|N
    ·exfalso;apply N
     have:b∈out.wr.map (·.1):=yh3.2 ⟨q,U,J⟩
     simp only[dI.tr];cases eE o.op with
     |true=>exact yj _ this
     |false=>exact this
    ·have N:rE st.mem out.wr b=true:=N;unfold rE at N;have:=yf1.1 N q U;simp only[yc2,yw]at this;rcases this with V|V
     ·exact absurd J (λe=>by rw[e,yg3]at V;cases V)
     ·exact Qe V
   |skip j Y d hg hd h=>cases U
  rcases yj1.1 M with rfl|M
  ·exact H
  ·intro q U J;have O:b<(e.app o.dst st).mem.length:=by rw[mE];omega
   rw[GU K hr (λp M=>hm p (yj _ M)) O p M q U J];exact Ah Z H rfl
structure Ix (P:Program) (C:bX) (an:nB) (rid:Nat) (ops:Array Oper) (L:Nat) (st0:St) (l:List (Oper×kD)) (all:List Tr):Prop where
 map:l.map (·.1)=ops.toList
 len:st0.mem.length=L
 one: ∀(i j:Nat) (o o':Oper) (e e':kD),i≠j->l[i]?=some (o,e)->l[j]?=some (o',e')->e.push≠ []->e'.push≠ []->c9 (x9 ops.toList []) i j=true
 step: ∀(j:Nat) (o:Oper) (e:kD),l[j]?=some (o,e)->∃rs,kF P C an rid ops o j rs (cM (λk=>Nat.blt k j) 0 l st0) e
 mate: ∀(i j:Nat) (o o':Oper) (e e':kD),i≠j->l[i]?=some (o,e)->l[j]?=some (o',e')->c9 (x9 ops.toList []) i j=false->
  TC L o.dst o'.dst e e'/\FD (R0 ops o) (T6 L all e) L o' e'/\(e'.push≠ []->mO o=false)
 back:kB ops.toList 0=true
 const: ∀b,M6 L all b=true->∀D,a8 (cM D 0 l st0).mem b=a8 st0.mem b
theorem P4{st0:St}{l:List (Oper×kD)}{rs L:Nat}(hmap:l.map (·.1)=ops.toList)(hc:Fk P C an rid ops 0 rs st0 l)(hlen:st0.mem.length=L)(hd:JI ops L ((l.filterMap (·.2.tr)).reverse)=true):
  Ix P C an rid ops L st0 l ((l.filterMap (·.2.tr)).reverse):=by
 generalize hall:(l.filterMap (·.2.tr)).reverse=all at hd⊢
 unfold JI at hd;simp only[yc]at hd;obtain⟨⟨⟨hback,htrs⟩,hpush⟩,hapart⟩:=hd;have K: ∀(j:Nat) (o:Oper) (e:kD),l[j]?=some (o,e)->∃rs,kF P C an rid ops o j rs (cM (λk=>Nat.blt k j) 0 l st0) e:=by
  intro j o e W;have:=hc.get W;simpa using this
 have hop: ∀(j:Nat) (o:Oper) (e:kD),l[j]?=some (o,e)->ops[j]?=some o:=by
  intro j o e W
  have:(l.map (·.1))[j]?=some o:=by rw[yg1,W];rfl
  rw[hmap,yq1]at this;exact this
 have hpw:=vX htrs;rw[List.pairwise_map]at hpw
 conv at hpw=>arg 2;rw[<-hall]
 rw[List.pairwise_reverse,List.pairwise_filterMap]at hpw;have hrel: ∀(i j:Nat) (o O:Oper) (e N:kD),i≠j->l[i]?=some (o,e)->l[j]?=some (O,N)->∀t J,e.tr=some t->N.tr=some J->In (x9 ops.toList []) L (Ie L all t) (Ie L all J):=by
  intro i j o O e N M hi W t J ht H;obtain⟨hil,hi2⟩:=yd.1 hi;obtain⟨hjl,hj2⟩:=yd.1 W;rw[List.pairwise_iff_getElem]at hpw;rcases Nat.lt_or_gt_of_ne M with h|h
  ·exact(hpw i j hil hjl h t (by rw[hi2];exact ht) J (by rw[hj2];exact H)).symm
  ·exact hpw j i hjl hil h J (by rw[hj2];exact H) t (by rw[hi2];exact ht)
 have hone2: ∀(i j:Nat) (o O:Oper) (e N:kD),i≠j->l[i]?=some (o,e)->l[j]?=some (O,N)->c9 (x9 ops.toList []) i j=false->e.push= []\/N.push= []:=by
  intro i j o O e N M hi W Y;by_cases h1:e.push= []
  ·exact .inl h1
  ·by_cases h2:N.push= []
   ·exact .inr h2
   ·obtain⟨rs1,hs1⟩:=K i o e hi;obtain⟨rs2,hs2⟩:=K j O N W;obtain⟨t,ht,hp⟩:=hs1.facts.2.1 h1;obtain⟨J,H,hp'⟩:=hs2.facts.2.1 h2;exact((hrel i j o O e N M hi W t J ht H).push (by rw[gZ.1,gZ.1,hs1.facts.2.2 t ht,hs2.facts.2.2 J H];exact Y) (by rw[gZ.2.2];exact hp) (by rw[gZ.2.2];exact hp')).elim
 refine⟨hmap,hlen,?_,K,?_,hback,?_⟩
 ·intro i j o O e N M hi W h1 h2;cases ho:c9 (x9 ops.toList []) i j with
  |true=>rfl
  |false=>
   rcases hone2 i j o O e N M hi W ho with h|h
   ·exact absurd h h1
   ·exact absurd h h2
 ·intro i j o O e N M hi W Y;obtain⟨rs1,hs1⟩:=K i o e hi;obtain⟨rs2,hs2⟩:=K j O N W;obtain⟨f1,f2,f3⟩:=hs1.facts;obtain⟨g1,g2,g3⟩:=hs2.facts;have hoi:=hop i o e hi;have hoj:=hop j O N W;have hin:i<ops.size:=(yb3.1 hoi).1;have hjn:j<ops.size:=(yb3.1 hoj).1;have U: ∀t J,e.tr=some t->N.tr=some J->_:=λt J ht H=>(hrel i j o O e N M hi W t J ht H).far (by rw[gZ.1,gZ.1,f3 t ht,g3 J H];exact Y)
  -- slots
  have hsl:(∀d,o.dst=some d->d∉O.looksAt ops)/\(∀d,o.dst=some d->O.dst≠some d)/\(∀d,O.dst=some d->d∉o.looksAt ops):=by
   rcases Nat.lt_or_gt_of_ne M with h|h
   ·rcases sR hapart (Nat.zero_le _) h (by omega)with h'|h'
    ·rw[Y]at h';cases h'
    ·unfold Cc at h';rw[hoi,hoj]at h';exact Oper.apart_spec h'
   ·rcases sR hapart (Nat.zero_le _) h (by omega)with h'|h'
    ·rw[nC,Y]at h';cases h'
    ·unfold Cc at h';rw[hoi,hoj]at h';obtain⟨a1,a2,a3⟩:=Oper.apart_spec h';exact⟨a3,λd hd hd'=>a2 d hd' hd,a1⟩
  refine⟨⟨hsl.2.1,λq hq q' hq'=>?_,hone2 i j o O e N M hi W Y,λhp q hq=>?_,λhp q hq=>?_⟩,⟨λd hd hS=>hsl.2.2 d hd hS,λq hq hF=>?_,λhp b hF=>?_⟩,λhp=>?_⟩
  ·obtain⟨t,ht,hm⟩:=f1 q hq;obtain⟨J,H,hm'⟩:=g1 q' hq';intro he;exact(U t J ht H).2.2.1 _ (by rw[gZ.2.1];exact hm) (by rw[gZ.2.1,he];exact hm')
  ·obtain⟨t,ht,Z⟩:=f2 hp;obtain⟨J,H,hm'⟩:=g1 q hq;exact((U t J ht H).2.2.2.1 (by rw[gZ.2.2];exact Z)).2 _ (by rw[gZ.2.1];exact hm')
  ·obtain⟨J,H,Z⟩:=g2 hp;obtain⟨t,ht,hm⟩:=f1 q hq;exact((U t J ht H).2.2.2.2 (by rw[gZ.2.2];exact Z)).2 _ (by rw[gZ.2.1];exact hm)
  ·obtain⟨J,H,hm'⟩:=g1 q hq;obtain⟨t,ht,V⟩:=hF;obtain⟨k1,k2,k3,_⟩:=U t J ht H;rcases V with V|V
   ·exact k2 _ V (by rw[gZ.2.1];exact hm')
   ·exact k3 _ (by rw[gZ.2.1];exact V) (by rw[gZ.2.1];exact hm')
  ·obtain⟨J,H,Z⟩:=g2 hp;obtain⟨t,ht,V⟩:=hF;obtain⟨k1,k2⟩:=(U t J ht H).2.2.2.2 (by rw[gZ.2.2];exact Z);rcases V with V|V
   ·exact k1 _ V
   ·exact k2 _ (by rw[gZ.2.1];exact V)
  ·obtain⟨J,H,Z⟩:=g2 hp;have hmem:J∈all:=by
    rw[<-hall,List.mem_reverse,List.mem_filterMap];exact⟨(O,N),yk W,H⟩
   have hnc:=HV hpush J hmem Z;rw[g3 J H]at hnc;have:=Fe (j:=i) hnc (by rw[yq1];exact hoi);rw[yc1]at this;rcases this with h|h|h
   ·exact absurd h.symm M
   ·rw[nC,Y]at h;cases h
   ·exact h
 ·intro b V D;unfold M6 at V;simp only[yc]at V;have hbL:b<st0.mem.length:=by
   have:=V.1;simp[Nat.blt]at this;omega
  have hall2: ∀u∈all,b∉u.wr\/u.wk b=true:=by
   intro u hu;have:=yf1.1 V.2 u hu;simp only[yc2,yw]at this;rcases this with h|h
   ·left;intro hm;rw[rD.2 hm]at h;cases h
   ·exact .inr h
  exact oG hbL (GU hall2 hc (λp hp t ht=>by rw[<-hall,List.mem_reverse,List.mem_filterMap];exact⟨p,hp,ht⟩) hbL) rfl
theorem Kk{H:Array Bool}{i j:Nat}(J:i<H.size):(H.setIfInBounds i true).getD j false=(if j=i then true else H.getD j false):=by
 by_cases h:j=i
 ·subst h;rw[if_pos rfl,yp,Array.getElem?_setIfInBounds_self_of_lt J];rfl
 ·rw[if_neg h,yp,Array.getElem?_setIfInBounds_ne (λe=>h e.symm),<-yp]
theorem PP(hC:kW P C){L:Nat}{K:St}{l:List (Oper×kD)}{all:List Tr}(hF:Ix P C an rid ops L K l all){G0:Gh}{w0:World}{old:List (Option Bool)}{Q:Exit->Act->World->Prop}
  (hQ: ∀G w a,SR G w (cM (λ_=>true) 0 l K) a->FB G0 w0 old G w->Q .normal a w):
  ∀(fuel:Nat) (H:Array Bool) (G:Gh) (w:World) (a:Act),H.size=ops.size->C6 ops (kL H)->left (kL H) ops.size=fuel->SR G w (cM (kL H) 0 l K) a->FB G0 w0 old G w->
   wpAny P .any ops Q fuel H a w:=by
 have hll:l.length=ops.size:=by rw[<-yk1 (f:=(·.1)) (as:=l),hF.map];simp
 intro fuel
 induction fuel with
 |zero=>
  intro H G w a hsz hcl W hS hI;have hall:=Iz W;refine⟨?_,hQ G w a ?_ hI⟩
  ·apply List.eq_nil_iff_forall_not_mem.2;intro j hj;obtain⟨h1,o,ho,_⟩:=mem_ready.1 hj;have hjn:=(yb3.1 ho).1;have:=hall j hjn;unfold kL at this;rw[yp,yb2 (by omega)]at this h1;simp only[Option.getD_some]at this h1;rw[this]at h1;cases h1
  ·rw[<-pT (D:=kL H) (D':=λ_=>true) (λk _ N=>hall k (by omega))];exact hS
 |succ fuel ih=>
  intro H G w a hsz hcl W hS hI;have Z: ∀i,i<ops.size->H.getD i true=kL H i:=by
   intro i hi;unfold kL;rw[yp,yp,yb2 (by omega)];rfl
  refine⟨λhnil=>?_,λi hi=>?_⟩
  ·obtain⟨i,hin,hid,hmin⟩:=P6 (Lg (D:=kL H) (n:=ops.size) (by omega));have:i∈Region.ready .any ops H:=by
    refine mem_ready.2 ⟨by rw[Z i hin];exact hid,ops[i],yb2 hin,λe he V=>?_⟩;refine hmin e.on ?_;have:=qL (j:=i) hF.back (by rw[yq1];exact yb2 hin);rw[yc1]at this;exact wA this e (by simpa using he) V
   rw[hnil]at this;cases this
  ·obtain⟨h1,o,ho,hpre⟩:=mem_ready.1 hi;have hin:=(yb3.1 ho).1;rw[Z i hin]at h1;obtain⟨e,hle⟩: ∃e,l[i]?=some (o,e):=by
    have hi2:i<l.length:=by omega
    have:(l.map (·.1))[i]?=some o:=by rw[hF.map,yq1];exact ho
    rw[yg1,yf hi2]at this;exact⟨l[i].2,by rw[yf hi2];simp at this;rw[<-this]⟩
   let D:=kL H
   let D1:=kL (H.setIfInBounds i true)
   have hD1: ∀j,D1 j=if j=i then true else D j:=λj=>Kk (by omega)
   have hD1i:D1 i=true:=by rw[hD1,if_pos rfl]
   have U: ∀j,j≠i->D1 j=D j:=λj hj=>by rw[hD1,if_neg hj]
   have hcl1:C6 ops D1:=by
    intro j o' hj e' he V hd;by_cases hji:j=i
    ·subst hji;rw[ho]at hj;obtain rfl:=ya hj;have:=hpre e' he V;rw[hD1];split
     ·rfl
     ·exact this
    ·rw[U j hji]at hd;have:=hcl j o' hj e' he V hd;rw[hD1];split
     ·rfl
     ·exact this
   -- what differs stands apart
   have hun1: ∀k,D k=true->i<k->c9 (x9 ops.toList []) i k=false:=by
    intro k N hik;cases J:c9 (x9 ops.toList []) i k with
    |false=>rfl
    |true=>
     unfold c9 at J;rw[yc2]at J;rcases J with J|J
     ·have:=(rL hF.back J).2 D hcl N;rw[show D i=false from h1]at this;cases this
     ·have:=(rL hF.back J).1;omega
   have hun2: ∀k,D k=false->k<i->c9 (x9 ops.toList []) i k=false:=by
    intro k N hik;cases J:c9 (x9 ops.toList []) i k with
    |false=>rfl
    |true=>
     unfold c9 at J;rw[yc2]at J;rcases J with J|J
     ·have:=(rL hF.back J).1;omega
     ·have:=(rL hF.back J).2 D1 hcl1 hD1i;rw[U k (by omega),N]at this;cases this
   have hdiff: ∀k,(Nat.blt k i)≠D k->c9 (x9 ops.toList []) i k=false/\k≠i:=by
    intro k M;rcases Nat.lt_trichotomy k i with h|h|h
    ·have V:Nat.blt k i=true:=by simp[Nat.blt];omega
     rw[V]at M;have N:D k=false:=by cases hh:D k with|false=>rfl|true=>rw[hh]at M;exact absurd rfl M
     exact⟨hun2 k N h,by omega⟩
    ·subst h;have V:Nat.blt k k=false:=by cases V:Nat.blt k k with|false=>rfl|true=>simp[Nat.blt]at V;omega
     rw[V,show D k=false from h1]at M;exact absurd rfl M
    ·have V:Nat.blt k i=false:=by cases V:Nat.blt k i with|false=>rfl|true=>simp[Nat.blt]at V;omega
     rw[V]at M;have N:D k=true:=by cases hh:D k with|true=>rfl|false=>rw[hh]at M;exact absurd rfl M
     exact⟨hun1 k N h,by omega⟩
   obtain⟨rs,hstep⟩:=hF.step i o e hle;have hagree:wV (R0 ops o) (T6 L all e) (cM (λk=>Nat.blt k i) 0 l K) (cM D 0 l K):=by
    have hcl2: ∀D2:Nat->Bool,(∀k k',k<k'->c9 (x9 ops.toList []) k k'=true->D2 k'=true->D2 k=true)->CR D2 0 l:=by
     intro D2 h2 k k' q q' hkk N hk' hp hp' hd;rw[yc1]at hd⊢
     exact h2 k k' hkk (hF.one k k' q.1 q'.1 q.2 q'.2 (by omega) N hk' hp hp') hd
    refine oI (L:=L) (Nat.le_of_eq hF.len.symm) (Nat.le_of_eq hF.len.symm) (.inl rfl) (hcl2 _ λk k' hkk _ hd=>?_) (hcl2 _ λk k' hkk J hd=>?_) (λk o' e' N M=>?_) ⟨λ_ _=>rfl,λ_ _=>rfl⟩
    ·simp only[Nat.blt,Nat.ble_eq]at hd⊢;omega
    ·unfold c9 at J;rw[yc2]at J;rcases J with J|J
     ·exact(rL hF.back J).2 D hcl hd
     ·have:=(rL hF.back J).1;omega
    rw[yc1]at M;obtain⟨hu,hki⟩:=hdiff k M;exact(hF.mate i k o o' e e' (λh=>hki h.symm) hle N hu).2.1
   have hlens:mO o=true->(cM D 0 l K).mem.length=(cM (λk=>Nat.blt k i) 0 l K).mem.length:=by
    intro hcall;refine Lv rfl (λk o' e' N hp=>?_);rw[yc1];by_cases heq:Nat.blt k i=D k
    ·exact heq
    ·obtain⟨hu,hki⟩:=hdiff k heq;have:=(hF.mate i k o o' e e' (λh=>hki h.symm) hle N hu).2.2 hp;rw[this]at hcall;cases hcall
   obtain⟨e1,hstep1,hv1,hw1,hp1⟩:=hstep.agree hagree hlens (λt b ht hc _ _=>(hF.const b hc D).trans (hF.const b hc _).symm);have Y:=hstep1.one;have happ:e1.app o.dst (cM D 0 l K)=e.app o.dst (cM D 0 l K):=by unfold kD.app;rw[hv1,hw1,hp1]
   rw[happ]at Y
   -- and afterwards
   have hafter:e.app o.dst (cM D 0 l K)=cM D1 0 l K:=by
    have hil:i<l.length:=by omega
    have hel:l[i]=(o,e):=by
     rw[yf hil]at hle;exact ya hle
    have O:l=l.take i++(o,e)::l.drop (i+1):=by
     rw[<-hel,<-yu3 hil,List.take_append_drop]
    have htl:(l.take i).length=i:=by simp;omega
    generalize V:l.drop (i+1)=b at O;generalize ha:l.take i=pre at O htl;rw[O,sW,sW,yc1,htl];have hpre':cM D1 0 pre K=cM D 0 pre K:=pT (λk _ N=>by rw[yc1,htl]at N;exact U k (by omega));rw[hpre'];simp only[cM];rw[show D i=false from h1,hD1i];simp only[yg,yh];rw[pT (D:=D1) (D':=D) (l:=b) (λk N _=>U k (by omega))];refine(Hv (L:=L) (yq2 (Nat.le_of_eq hF.len.symm) Pn) (λk o' e' N hd=>?_)).symm
    ·have hk':l[i+1+k]?=some (o',e'):=by
      rw[<-V,ye1]at N;exact N
     exact(hF.mate i (i+1+k) o o' e e' (by omega) hle hk' (hun1 _ hd (by omega))).1
   refine Y.sound hC ho hS _ _ (λG' w' a' hg he hS'=>?_);rw[hafter]at hS';refine ih (H.setIfInBounds i true) G' w' a' (by simpa using hsz) hcl1 ?_ hS' (hI.step hg he);have:=(MR (D:=D) (D':=D1) h1 hD1i U (n:=ops.size)).1 hin;have h2:left D ops.size=fuel+1:=W;show left D1 ops.size=fuel;omega
theorem OO(hm:P.follows .mixedOrders=true)(hC:kW P C)(an:nB):FG P C an:=by
 intro R rid ops st k r G0 w0 old G w a Q h hS hI Y;unfold jM at h;obtain⟨l,M,hc,H⟩:=Hm h;rw[yo1]at H;rw[aA]at H;obtain⟨K,H⟩:=H;simp only[yf2,yg4]at K;have hF:=P4 (L:=st.mem.length+pX ops.toList) M hc (by simp) K;have J:Ev G w w.drew:=Ev.drew G w;have O:SR G w.drew {st with mem:=st.mem++List.replicate (pX ops.toList) none} a:=by
  have N:=hS.widen (pX ops.toList);exact⟨N.memr.ev J (.inl rfl) (λB _=>rfl),N.len,λj x Z=>(N.tmps j x Z).imp id (λh=>h.mono (c5.refl G) J),N.defers⟩
 refine wp_region_any hm ?_;refine PP hC hF (G0:=G0) (w0:=w0) (old:=old) (λG' w' W U V=>Y _ G' w' W H U.trim V) ops.size (Array.replicate ops.size false) G w.drew a (by simp) ?_ ?_ ?_ (hI.step (c5.refl G) J)
 ·intro j o ho e he hb K;unfold kL at K;rw[yp,yw3]at K;split at K<;>simp at K
 ·have:left (kL (Array.replicate ops.size false)) ops.size=left (λ_=>false) ops.size:=by
   congr 1;funext i;unfold kL;rw[yp,yw3];split<;>rfl
  rw[this,QS]
 ·rw[A8]
  ·exact O
  ·intro k _;unfold kL;rw[yp,yw3];split<;>rfl
end
end Go.Ab
