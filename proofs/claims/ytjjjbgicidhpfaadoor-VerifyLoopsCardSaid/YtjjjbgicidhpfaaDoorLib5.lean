import Derived.Test.YtjjjbgicidhpfaaDoorLib4
set_option linter.unusedVariables false
set_option linter.unusedSectionVars false
set_option linter.unusedSimpArgs false
namespace Go.Ab
variable [b3]
section
variable {P:Program} {C:bM} {an:kQ} {rid:Nat} {ops:Array Oper} {R:Type}
theorem Mn{D:Nat->Bool}{n:Nat}(h: ∃i,i<n/\D i=false): ∃i,i<n/\D i=false/\∀j,j<i->D j=true:=by
 obtain⟨i,⟨J,I⟩,H⟩:=rV (p:=λi=>i<n/\D i=false) h;refine⟨i,J,I,λj hj=>?_⟩;cases hD:D j with
 |true=>rfl
 |false=>have:=H j ⟨by omega,hD⟩;omega
def left(D:Nat->Bool):Nat->Nat
 |0=>0
 |n+1=>left D n+(bif D n then 0 else 1)
theorem F1{D:Nat->Bool}: ∀{n:Nat},left D n=0->∀i,i<n->D i=true
 |0,_,i,h=>by omega
 |n+1,h,i,hi=>by
  simp only[left]at h;rcases yd2 i n with H|H
  ·exact F1 (by omega) i H
  ·obtain rfl:i=n:=by omega
   cases hD:D i with
   |true=>rfl
   |false=>rw[hD]at h;simp at h
theorem Jw{D D':Nat->Bool}{i:Nat}(hD:D i=false)(H:D' i=true)(hs: ∀j,j≠i->D' j=D j): ∀{n:Nat},(i<n->left D n=left D' n+1)/\(n≤i->left D n=left D' n)
 |0=>⟨λh=>by omega,λ_=>rfl⟩
 |n+1=>by
  obtain⟨K,I⟩:=Jw hD H hs (n:=n);refine⟨λh=>?_,λh=>?_⟩
  ·simp only[left];rcases yd2 i n with J|J
   ·rw[K J,hs n (by omega)];omega
   ·obtain rfl:i=n:=by omega
    rw[I (ya1 _),hD,H];rfl
  ·simp only[left];rw[I (by omega),hs n (by omega)]
theorem I4{D:Nat->Bool}: ∀{n:Nat},0<left D n->∃i,i<n/\D i=false
 |0,h=>by simp[left]at h
 |n+1,h=>by
  simp only[left]at h;cases hD:D n with
  |false=>exact⟨n,yj2 _,hD⟩
  |true=>
   rw[hD]at h;simp only[yl,yk1]at h;obtain⟨i,hi,H⟩:=I4 h;exact⟨i,by omega,H⟩
theorem MJ(n:Nat):left (λ_=>false) n=n:=by
 induction n with
 |zero=>rfl
 |succ n H=>simp[left,H]
def iY(listed:Array Bool):Nat->Bool:=λi=>listed.getD i false
theorem OJ{x y:Option (Nat×Nat×Nat×Nat)}(h:P6 x y=true):x=y:=by
 unfold P6 at h;split at h
 ·rfl
 ·simp only[yb]at h;obtain⟨⟨⟨K,J⟩,I⟩,H⟩:=h;rw[bI.1 K,bI.1 J,bI.1 I,bI.1 H]
 ·cases h
theorem KY: ∀{x y:List (Option (Nat×Nat×Nat×Nat))},N0 x y=true->x=y
 | [],[],_=>rfl
 |x::xs,y::ys,h=>by
  simp only[N0,yb]at h;rw[OJ h.1,KY h.2]
 | [],_::_,h=>by cases h
 |_::_,[],h=>by cases h
theorem LG{x y:Option (Nat×Nat×List (Option (Nat×Nat×Nat×Nat)))}(h:GW x y=true):x=y:=by
 unfold GW at h;split at h
 ·simp only[yb]at h;obtain⟨⟨J,I⟩,H⟩:=h;rw[bI.1 J,bI.1 I,KY H]
 ·cases h
theorem oR{b:Nat}{V:Option (Nat×Nat×List (Option (Nat×Nat×Nat×Nat)))}: ∀{wr:List (Nat×bG)} {m:aK},(∀q∈wr,q.1=b->f7 q.2=V)->a5 m b=V->a5 (aM m wr) b=V
 | [],m,_,h=>h
 |(c,x)::wr,m,H,h=>by
  unfold aM;refine oR (λq J=>H q (yg _ J)) ?_;by_cases I:c=b
  ·subst I;by_cases K:c<m.length
   ·unfold a5;rw[yw K];exact H (c,x) (ym ..) rfl
   ·rw[List.set_eq_of_length_le (by omega)];exact h
  ·unfold a5;rw[yp I];exact h
theorem vY{b:Nat}{V:Option (Nat×Nat×List (Option (Nat×Nat×Nat×Nat)))}{e:iJ}{d:Option Tmp}{st:St}(I:b<st.mem.length)(J: ∀q∈e.wr,q.1=b->f7 q.2=V)(h:a5 st.mem b=V):a5 (e.app d st).mem b=V:=by
 have H:=oR J h;unfold iJ.app;simp only;unfold a5 at H⊢
 rw[yn (by rw[bQ];exact I)];exact H
theorem lX{b:Nat}{V:Option (Nat×Nat×List (Option (Nat×Nat×Nat×Nat)))}{D:Nat->Bool}: ∀{l:List (Oper×iJ)} {i:Nat} {st:St},b<st.mem.length->(∀p∈l,∀q∈p.2.wr,q.1=b->f7 q.2=V)->a5 st.mem b=V->a5 (b9 D i l st).mem b=V
 | [],i,st,_,_,h=>h
 |(o,e)::l,i,st,J,I,h=>by
  simp only[b9];cases hD:D i with
  |true=>
   exact lX (by rw[yl,jS];omega) (λp H=>I p (yg _ H)) (vY J (I (o,e) (ym ..)) h)
  |false=>exact lX J (λp H=>I p (yg _ H)) h
theorem D8{b:Nat}{all:List Tr}(J: ∀u∈all,b∉u.wr\/u.wk b=true): ∀{l:List (Oper×iJ)} {i rs:Nat} {st:St},BK P C an rid ops i rs st l->(∀p∈l,∀t,p.2.tr=some t->t∈all)->b<st.mem.length->
  ∀p∈l,∀q∈p.2.wr,q.1=b->f7 q.2=a5 st.mem b
 | [],i,rs,st,_,_,_,p,K=>by cases K
 |(o,e)::l,i,rs,st,Z,hm,Y,p,K=>by
  cases Z with
  |cons _ _ _ _ _ _ h hr=>
  have H: ∀q∈e.wr,q.1=b->f7 q.2=a5 st.mem b:=by
   intro q O I;cases h with
   |run out V ho hg=>
    rcases J _ (hm (o,_) (ym ..) _ rfl)with M|M
    ·exfalso;apply M;have:b∈out.wr.map (·.1):=yq2.2 ⟨q,O,I⟩
     simp only[cU.tr];cases dJ o.op with
     |true=>exact yg _ this
     |false=>exact this
    ·have M:n8 st.mem out.wr b=true:=M;unfold n8 at M;have:=yi2.1 M q O;simp only[yu1,yq]at this;rcases this with U|U
     ·exact absurd I (λe=>by rw[e,yf3]at U;cases U)
     ·exact LG U
   |skip j W d hg hd h=>cases O
  rcases yl1.1 K with rfl|K
  ·exact H
  ·intro q O I;have N:b<(e.app o.dst st).mem.length:=by rw[jS];omega
   rw[D8 J hr (λp K=>hm p (yg _ K)) N p K q O I];exact vY Y H rfl
structure Gp (P:Program) (C:bM) (an:kQ) (rid:Nat) (ops:Array Oper) (L:Nat) (st0:St) (l:List (Oper×iJ)) (all:List Tr):Prop where
 map:l.map (·.1)=ops.toList
 len:st0.mem.length=L
 one: ∀(i j:Nat) (o o':Oper) (e e':iJ),i≠j->l[i]?=some (o,e)->l[j]?=some (o',e')->e.push≠ []->e'.push≠ []->cN (q9 ops.toList []) i j=true
 step: ∀(j:Nat) (o:Oper) (e:iJ),l[j]?=some (o,e)->∃rs,iW P C an rid ops o j rs (b9 (λk=>Nat.blt k j) 0 l st0) e
 mate: ∀(i j:Nat) (o o':Oper) (e e':iJ),i≠j->l[i]?=some (o,e)->l[j]?=some (o',e')->cN (q9 ops.toList []) i j=false->
  Og L o.dst o'.dst e e'/\Cx (Ny ops o) (O4 L all e) L o' e'/\(e'.push≠ []->j9 o=false)
 back:iC ops.toList 0=true
 const: ∀b,JZ L all b=true->∀D,a5 (b9 D 0 l st0).mem b=a5 st0.mem b
theorem Md{st0:St}{l:List (Oper×iJ)}{rs L:Nat}(hmap:l.map (·.1)=ops.toList)(hc:BK P C an rid ops 0 rs st0 l)(hlen:st0.mem.length=L)(hd:GF ops L ((l.filterMap (·.2.tr)).reverse)=true):
  Gp P C an rid ops L st0 l ((l.filterMap (·.2.tr)).reverse):=by
 generalize hall:(l.filterMap (·.2.tr)).reverse=all at hd⊢
 unfold GF at hd;simp only[yb]at hd;obtain⟨⟨⟨hback,htrs⟩,hpush⟩,Z⟩:=hd;have J: ∀(j:Nat) (o:Oper) (e:iJ),l[j]?=some (o,e)->∃rs,iW P C an rid ops o j rs (b9 (λk=>Nat.blt k j) 0 l st0) e:=by
  intro j o e U;have:=hc.get U;simpa using this
 have hop: ∀(j:Nat) (o:Oper) (e:iJ),l[j]?=some (o,e)->ops[j]?=some o:=by
  intro j o e U;have:(l.map (·.1))[j]?=some o:=by rw[yc1,U];rfl
  rw[hmap,yh1]at this;exact this
 have hpw:=qS htrs;rw[List.pairwise_map]at hpw
 conv at hpw=>arg 2;rw[<-hall]
 rw[List.pairwise_reverse,List.pairwise_filterMap]at hpw;have hrel: ∀(i j:Nat) (o N:Oper) (e M:iJ),i≠j->l[i]?=some (o,e)->l[j]?=some (N,M)->∀t I,e.tr=some t->M.tr=some I->FL (q9 ops.toList []) L (FC L all t) (FC L all I):=by
  intro i j o N e M K hi U t I ht H;obtain⟨hil,hi2⟩:=yd.1 hi;obtain⟨hjl,hj2⟩:=yd.1 U;rw[List.pairwise_iff_getElem]at hpw;rcases Nat.lt_or_gt_of_ne K with h|h
  ·exact(hpw i j hil hjl h t (by rw[hi2];exact ht) I (by rw[hj2];exact H)).symm
  ·exact hpw j i hjl hil h I (by rw[hj2];exact H) t (by rw[hi2];exact ht)
 have hone2: ∀(i j:Nat) (o N:Oper) (e M:iJ),i≠j->l[i]?=some (o,e)->l[j]?=some (N,M)->cN (q9 ops.toList []) i j=false->e.push= []\/M.push= []:=by
  intro i j o N e M K hi U Y;by_cases h1:e.push= []
  ·exact .inl h1
  ·by_cases h2:M.push= []
   ·exact .inr h2
   ·obtain⟨rs1,hs1⟩:=J i o e hi;obtain⟨rs2,hs2⟩:=J j N M U;obtain⟨t,ht,hp⟩:=hs1.facts.2.1 h1;obtain⟨I,H,hp'⟩:=hs2.facts.2.1 h2;exact((hrel i j o N e M K hi U t I ht H).push (by rw[fR.1,fR.1,hs1.facts.2.2 t ht,hs2.facts.2.2 I H];exact Y) (by rw[fR.2.2];exact hp) (by rw[fR.2.2];exact hp')).elim
 refine⟨hmap,hlen,?_,J,?_,hback,?_⟩
 ·intro i j o N e M K hi U h1 h2;cases ho:cN (q9 ops.toList []) i j with
  |true=>rfl
  |false=>
   rcases hone2 i j o N e M K hi U ho with h|h
   ·exact absurd h h1
   ·exact absurd h h2
 ·intro i j o N e M K hi U Y;obtain⟨rs1,hs1⟩:=J i o e hi;obtain⟨rs2,hs2⟩:=J j N M U;obtain⟨f1,f2,f3⟩:=hs1.facts;obtain⟨g1,g2,g3⟩:=hs2.facts;have hoi:=hop i o e hi;have hoj:=hop j N M U;have hin:i<ops.size:=(yn2.1 hoi).1;have hjn:j<ops.size:=(yn2.1 hoj).1;have O: ∀t I,e.tr=some t->M.tr=some I->_:=λt I ht H=>(hrel i j o N e M K hi U t I ht H).far (by rw[fR.1,fR.1,f3 t ht,g3 I H];exact Y)
  -- slots
  have hsl:(∀d,o.dst=some d->d∉N.looksAt ops)/\(∀d,o.dst=some d->N.dst≠some d)/\(∀d,N.dst=some d->d∉o.looksAt ops):=by
   rcases Nat.lt_or_gt_of_ne K with h|h
   ·rcases pB Z (Nat.zero_le _) h (by omega)with h'|h'
    ·rw[Y]at h';cases h'
    ·unfold zJ at h';rw[hoi,hoj]at h';exact Oper.apart_spec h'
   ·rcases pB Z (Nat.zero_le _) h (by omega)with h'|h'
    ·rw[lE,Y]at h';cases h'
    ·unfold zJ at h';rw[hoi,hoj]at h';obtain⟨a1,a2,a3⟩:=Oper.apart_spec h';exact⟨a3,λd hd hd'=>a2 d hd' hd,a1⟩
  refine⟨⟨hsl.2.1,λq hq q' hq'=>?_,hone2 i j o N e M K hi U Y,λhp q hq=>?_,λhp q hq=>?_⟩,⟨λd hd hS=>hsl.2.2 d hd hS,λq hq hF=>?_,λhp b hF=>?_⟩,λhp=>?_⟩
  ·obtain⟨t,ht,hm⟩:=f1 q hq;obtain⟨I,H,hm'⟩:=g1 q' hq';intro he;exact(O t I ht H).2.2.1 _ (by rw[fR.2.1];exact hm) (by rw[fR.2.1,he];exact hm')
  ·obtain⟨t,ht,W⟩:=f2 hp;obtain⟨I,H,hm'⟩:=g1 q hq;exact((O t I ht H).2.2.2.1 (by rw[fR.2.2];exact W)).2 _ (by rw[fR.2.1];exact hm')
  ·obtain⟨I,H,W⟩:=g2 hp;obtain⟨t,ht,hm⟩:=f1 q hq;exact((O t I ht H).2.2.2.2 (by rw[fR.2.2];exact W)).2 _ (by rw[fR.2.1];exact hm)
  ·obtain⟨I,H,hm'⟩:=g1 q hq;obtain⟨t,ht,V⟩:=hF;obtain⟨k1,k2,k3,_⟩:=O t I ht H;rcases V with V|V
   ·exact k2 _ V (by rw[fR.2.1];exact hm')
   ·exact k3 _ (by rw[fR.2.1];exact V) (by rw[fR.2.1];exact hm')
  ·obtain⟨I,H,W⟩:=g2 hp;obtain⟨t,ht,V⟩:=hF;obtain⟨k1,k2⟩:=(O t I ht H).2.2.2.2 (by rw[fR.2.2];exact W);rcases V with V|V
   ·exact k1 _ V
   ·exact k2 _ (by rw[fR.2.1];exact V)
  ·obtain⟨I,H,W⟩:=g2 hp;have hmem:I∈all:=by
    rw[<-hall,List.mem_reverse,List.mem_filterMap];exact⟨(N,M),yt U,H⟩
   have hnc:=Eh hpush I hmem W;rw[g3 I H]at hnc;have:=BQ (j:=i) hnc (by rw[yh1];exact hoi);rw[yy]at this;rcases this with h|h|h
   ·exact absurd h.symm K
   ·rw[lE,Y]at h;cases h
   ·exact h
 ·intro b V D;unfold JZ at V;simp only[yb]at V;have hbL:b<st0.mem.length:=by
   have:=V.1;simp[Nat.blt]at this;omega
  have hall2: ∀u∈all,b∉u.wr\/u.wk b=true:=by
   intro u hu;have:=yi2.1 V.2 u hu;simp only[yu1,yq]at this;rcases this with h|h
   ·left;intro hm;rw[n4.2 hm]at h;cases h
   ·exact .inr h
  exact lX hbL (D8 hall2 hc (λp hp t ht=>by rw[<-hall,List.mem_reverse,List.mem_filterMap];exact⟨p,hp,ht⟩) hbL) rfl
theorem G8{H:Array Bool}{i j:Nat}(I:i<H.size):(H.setIfInBounds i true).getD j false=(if j=i then true else H.getD j false):=by
 by_cases h:j=i
 ·subst h;rw[if_pos rfl,yk,Array.getElem?_setIfInBounds_self_of_lt I];rfl
 ·rw[if_neg h,yk,Array.getElem?_setIfInBounds_ne (λe=>h e.symm),<-yk]
theorem Mr(hC:iU P C){L:Nat}{J:St}{l:List (Oper×iJ)}{all:List Tr}(hF:Gp P C an rid ops L J l all){G0:Gh}{w0:World}{old:List (Option Bool)}{Q:Exit->Act->World->Prop}
  (hQ: ∀G w a,SR G w (b9 (λ_=>true) 0 l J) a->Ci G0 w0 old G w->Q .normal a w):
  ∀(fuel:Nat) (H:Array Bool) (G:Gh) (w:World) (a:Act),H.size=ops.size->A3 ops (iY H)->left (iY H) ops.size=fuel->SR G w (b9 (iY H) 0 l J) a->Ci G0 w0 old G w->
   wpAny P .any ops Q fuel H a w:=by
 have hll:l.length=ops.size:=by rw[<-ye1 (f:=(·.1)) (as:=l),hF.map];simp
 intro fuel
 induction fuel with
 |zero=>
  intro H G w a hsz hcl V hS hI;have hall:=F1 V;refine⟨?_,hQ G w a ?_ hI⟩
  ·apply List.eq_nil_iff_forall_not_mem.2;intro j hj;obtain⟨h1,o,ho,_⟩:=mem_ready.1 hj;have hjn:=(yn2.1 ho).1;have:=hall j hjn;unfold iY at this;rw[yk,yo1 (by omega)]at this h1;simp only[Option.getD_some]at this h1;rw[this]at h1;cases h1
  ·rw[<-mO (D:=iY H) (D':=λ_=>true) (λk _ M=>hall k (by omega))];exact hS
 |succ fuel ih=>
  intro H G w a hsz hcl V hS hI;have Y: ∀i,i<ops.size->H.getD i true=iY H i:=by
   intro i hi;unfold iY;rw[yk,yk,yo1 (by omega)];rfl
  refine⟨λhnil=>?_,λi hi=>?_⟩
  ·obtain⟨i,Z,hid,hmin⟩:=Mn (I4 (D:=iY H) (n:=ops.size) (by omega));have:i∈Region.ready .any ops H:=by
    refine mem_ready.2 ⟨by rw[Y i Z];exact hid,ops[i],yo1 Z,λe he U=>?_⟩;refine hmin e.on ?_;have:=nL (j:=i) hF.back (by rw[yh1];exact yo1 Z);rw[yy]at this;exact qU this e (by simpa using he) U
   rw[hnil]at this;cases this
  ·obtain⟨h1,o,ho,hpre⟩:=mem_ready.1 hi;have Z:=(yn2.1 ho).1;rw[Y i Z]at h1;obtain⟨e,hle⟩: ∃e,l[i]?=some (o,e):=by
    have hi2:i<l.length:=by omega
    have:(l.map (·.1))[i]?=some o:=by rw[hF.map,yh1];exact ho
    rw[yc1,yf hi2]at this;exact⟨l[i].2,by rw[yf hi2];simp at this;rw[<-this]⟩
   let D:=iY H
   let D1:=iY (H.setIfInBounds i true)
   have hD1: ∀j,D1 j=if j=i then true else D j:=λj=>G8 (by omega)
   have hD1i:D1 i=true:=by rw[hD1,if_pos rfl]
   have O: ∀j,j≠i->D1 j=D j:=λj hj=>by rw[hD1,if_neg hj]
   have hcl1:A3 ops D1:=by
    intro j o' hj e' he U hd;by_cases hji:j=i
    ·subst hji;rw[ho]at hj;obtain rfl:=ya hj;have:=hpre e' he U;rw[hD1];split
     ·rfl
     ·exact this
    ·rw[O j hji]at hd;have:=hcl j o' hj e' he U hd;rw[hD1];split
     ·rfl
     ·exact this
   -- what differs stands apart
   have hun1: ∀k,D k=true->i<k->cN (q9 ops.toList []) i k=false:=by
    intro k M hik;cases I:cN (q9 ops.toList []) i k with
    |false=>rfl
    |true=>
     unfold cN at I;rw[yu1]at I;rcases I with I|I
     ·have:=(nZ hF.back I).2 D hcl M;rw[show D i=false from h1]at this;cases this
     ·have:=(nZ hF.back I).1;omega
   have hun2: ∀k,D k=false->k<i->cN (q9 ops.toList []) i k=false:=by
    intro k M hik;cases I:cN (q9 ops.toList []) i k with
    |false=>rfl
    |true=>
     unfold cN at I;rw[yu1]at I;rcases I with I|I
     ·have:=(nZ hF.back I).1;omega
     ·have:=(nZ hF.back I).2 D1 hcl1 hD1i;rw[O k (by omega),M]at this;cases this
   have hdiff: ∀k,(Nat.blt k i)≠D k->cN (q9 ops.toList []) i k=false/\k≠i:=by
    intro k K;rcases Nat.lt_trichotomy k i with h|h|h
    ·have U:Nat.blt k i=true:=by simp[Nat.blt];omega
     rw[U]at K;have M:D k=false:=by cases hh:D k with|false=>rfl|true=>rw[hh]at K;exact absurd rfl K
     exact⟨hun2 k M h,by omega⟩
    ·subst h;have U:Nat.blt k k=false:=by cases U:Nat.blt k k with|false=>rfl|true=>simp[Nat.blt]at U;omega
     rw[U,show D k=false from h1]at K;exact absurd rfl K
    ·have U:Nat.blt k i=false:=by cases U:Nat.blt k i with|false=>rfl|true=>simp[Nat.blt]at U;omega
     rw[U]at K;have M:D k=true:=by cases hh:D k with|true=>rfl|false=>rw[hh]at K;exact absurd rfl K
     exact⟨hun1 k M h,by omega⟩
   obtain⟨rs,hstep⟩:=hF.step i o e hle;have hagree:sI (Ny ops o) (O4 L all e) (b9 (λk=>Nat.blt k i) 0 l J) (b9 D 0 l J):=by
    have hcl2: ∀D2:Nat->Bool,(∀k k',k<k'->cN (q9 ops.toList []) k k'=true->D2 k'=true->D2 k=true)->AS D2 0 l:=by
     intro D2 h2 k k' q q' hkk M hk' hp hp' hd;rw[yy]at hd⊢
     exact h2 k k' hkk (hF.one k k' q.1 q'.1 q.2 q'.2 (by omega) M hk' hp hp') hd
    refine l7 (L:=L) (Nat.le_of_eq hF.len.symm) (Nat.le_of_eq hF.len.symm) (.inl rfl) (hcl2 _ λk k' hkk _ hd=>?_) (hcl2 _ λk k' hkk I hd=>?_) (λk o' e' M K=>?_) ⟨λ_ _=>rfl,λ_ _=>rfl⟩
    ·simp only[Nat.blt,Nat.ble_eq]at hd⊢;omega
    ·unfold cN at I;rw[yu1]at I;rcases I with I|I
     ·exact(nZ hF.back I).2 D hcl hd
     ·have:=(nZ hF.back I).1;omega
    rw[yy]at K;obtain⟨hu,hki⟩:=hdiff k K;exact(hF.mate i k o o' e e' (λh=>hki h.symm) hle M hu).2.1
   have hlens:j9 o=true->(b9 D 0 l J).mem.length=(b9 (λk=>Nat.blt k i) 0 l J).mem.length:=by
    intro hcall;refine I0 rfl (λk o' e' M hp=>?_);rw[yy];by_cases heq:Nat.blt k i=D k
    ·exact heq
    ·obtain⟨hu,hki⟩:=hdiff k heq;have:=(hF.mate i k o o' e e' (λh=>hki h.symm) hle M hu).2.2 hp;rw[this]at hcall;cases hcall
   obtain⟨e1,hstep1,hv1,hw1,hp1⟩:=hstep.agree hagree hlens (λt b ht hc _ _=>(hF.const b hc D).trans (hF.const b hc _).symm);have W:=hstep1.one;have happ:e1.app o.dst (b9 D 0 l J)=e.app o.dst (b9 D 0 l J):=by unfold iJ.app;rw[hv1,hw1,hp1]
   rw[happ]at W
   -- and afterwards
   have hafter:e.app o.dst (b9 D 0 l J)=b9 D1 0 l J:=by
    have hil:i<l.length:=by omega
    have hel:l[i]=(o,e):=by
     rw[yf hil]at hle;exact ya hle
    have N:l=l.take i++(o,e)::l.drop (i+1):=by
     rw[<-hel,<-List.drop_eq_getElem_cons hil,List.take_append_drop]
    have htl:(l.take i).length=i:=by simp;omega
    generalize U:l.drop (i+1)=b at N;generalize ha:l.take i=pre at N htl;rw[N,oY,oY,yy,htl];have hpre':b9 D1 0 pre J=b9 D 0 pre J:=mO (λk _ M=>by rw[yy,htl]at M;exact O k (by omega));rw[hpre'];simp only[b9];rw[show D i=false from h1,hD1i];simp only[yl,yj];rw[mO (D:=D1) (D':=D) (l:=b) (λk M _=>O k (by omega))];refine(Fm (L:=L) (yc2 (Nat.le_of_eq hF.len.symm) KT) (λk o' e' M hd=>?_)).symm
    ·have hk':l[i+1+k]?=some (o',e'):=by
      rw[<-U,yz]at M;exact M
     exact(hF.mate i (i+1+k) o o' e e' (by omega) hle hk' (hun1 _ hd (by omega))).1
   refine W.sound hC ho hS _ _ (λG' w' a' hg he hS'=>?_);rw[hafter]at hS';refine ih (H.setIfInBounds i true) G' w' a' (by simpa using hsz) hcl1 ?_ hS' (hI.step hg he);have:=(Jw (D:=D) (D':=D1) h1 hD1i O (n:=ops.size)).1 Z;have h2:left D ops.size=fuel+1:=V;show left D1 ops.size=fuel;omega
theorem Lc(hm:P.follows .mixedOrders=true)(hC:iU P C)(an:kQ):Cz P C an:=by
 intro R rid ops st k r G0 w0 old G w a Q h hS hI Y;unfold gQ at h;obtain⟨l,K,Z,H⟩:=De h;rw[yg1]at H;rw[aA]at H;obtain⟨J,H⟩:=H;simp only[Bool.not_true,Bool.false_or]at J;have hF:=Md (L:=st.mem.length+nJ ops.toList) K Z (by simp) J;have I:Ev G w w.drew:=Ev.drew G w;have N:SR G w.drew {st with mem:=st.mem++List.replicate (nJ ops.toList) none} a:=by
  have M:=hS.widen (nJ ops.toList);exact⟨M.memr.ev I (.inl rfl) (λB _=>rfl),M.len,λj x W=>(M.tmps j x W).imp id (λh=>h.mono (cJ.refl G) I),M.defers⟩
 refine wp_region_any hm ?_;refine Mr hC hF (G0:=G0) (w0:=w0) (old:=old) (λV w' a' U O=>Y _ V w' a' H U.trim O) ops.size (Array.replicate ops.size false) G w.drew a (by simp) ?_ ?_ ?_ (hI.step (cJ.refl G) I)
 ·intro j o ho e he hb J;unfold iY at J;rw[yk,ya3]at J;split at J<;>simp at J
 ·have:left (iY (Array.replicate ops.size false)) ops.size=left (λ_=>false) ops.size:=by
   congr 1;funext i;unfold iY;rw[yk,ya3];split<;>rfl
  rw[this,MJ]
 ·rw[yQ]
  ·exact N
  ·intro k _;unfold iY;rw[yk,ya3];split<;>rfl
end
end Go.Ab
