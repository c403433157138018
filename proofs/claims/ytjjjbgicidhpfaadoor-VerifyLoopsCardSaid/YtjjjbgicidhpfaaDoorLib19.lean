import Derived.Test.YtjjjbgicidhpfaaDoorLib18
set_option linter.unusedVariables false
set_option linter.unusedSectionVars false
set_option linter.unusedSimpArgs false
namespace Go.Ab
variable [b3]
section
variable {P:Program} {R:Type} {r:R} {mem:aE} {tab:TypeId->Option TI}
mutual
theorem s0: ∀v:KV,v.down.refs=v.refs
 | .lit _=>rfl
 | .tsl _ _ _ _=>rfl
 | .el _ _ _ _ _=>rfl
 | .ptr _ _ _ _=>rfl
 | .ms _ _ _ _=>rfl
 | .msw _ _=>rfl
 | .fn f I H=>by simp only[KV.down,AV.refs,KV.refs,bX I,bX H]
 | .agg cs=>by simp only[KV.down,AV.refs,KV.refs,bX cs]
 | .tup vs=>by simp only[KV.down,AV.refs,KV.refs,bX vs]
 | .dead=>rfl
 | .gone=>rfl
 | .unkB=>rfl
theorem bX: ∀vs:List KV,AV.refsAll (KV.downs vs)=KV.refsAll vs
 | []=>rfl
 |v::vs=>by simp only[KV.downs,AV.refsAll,KV.refsAll,s0 v,bX vs]
end
mutual
theorem qP(f:i7): ∀v:KV,v.down.ren f=(v.ren f).down
 | .lit _=>rfl
 | .tsl _ _ _ _=>rfl
 | .el _ _ _ _ _=>rfl
 | .ptr b g i c=>by simp only[KV.down,AV.ren,KV.ren];cases f b g<;>rfl
 | .ms b g o n=>by simp only[KV.down,AV.ren,KV.ren];cases f b g<;>rfl
 | .msw b g=>by simp only[KV.down,AV.ren,KV.ren];cases f b g<;>rfl
 | .fn h I H=>by simp only[KV.down,AV.ren,KV.ren,eT f I,eT f H]
 | .agg cs=>by simp only[KV.down,AV.ren,KV.ren,eT f cs]
 | .tup vs=>by simp only[KV.down,AV.ren,KV.ren,eT f vs]
 | .dead=>rfl
 | .gone=>rfl
 | .unkB=>rfl
theorem eT(f:i7): ∀vs:List KV,AV.renAll f (KV.downs vs)=KV.downs (KV.renAll f vs)
 | []=>rfl
 |v::vs=>by simp only[KV.downs,AV.renAll,KV.renAll,qP f v,eT f vs]
end
mutual
theorem AY: ∀v:KV,v.down.lent=v.lent
 | .lit _=>rfl
 | .tsl _ _ _ _=>rfl
 | .el _ _ _ _ _=>rfl
 | .ptr _ _ _ _=>rfl
 | .ms _ _ _ _=>rfl
 | .msw _ _=>rfl
 | .fn f I H=>by simp only[KV.down,AV.lent,KV.lent,f5 I,f5 H]
 | .agg cs=>by simp only[KV.down,AV.lent,KV.lent,f5 cs]
 | .tup vs=>by simp only[KV.down,AV.lent,KV.lent,f5 vs]
 | .dead=>rfl
 | .gone=>rfl
 | .unkB=>rfl
theorem f5: ∀vs:List KV,AV.lentAny (KV.downs vs)=KV.lentAny vs
 | []=>rfl
 |v::vs=>by simp only[KV.downs,AV.lentAny,KV.lentAny,AY v,f5 vs]
end
theorem wJ: ∀hs:cK,eL (a8 hs)=vC hs
 | []=>rfl
 |(i,c,v)::hs=>by simp only[a8,eL,vC,s0,wJ hs]
theorem zC(f:i7): ∀hs:cK,mW f (a8 hs)=a8 (zH f hs)
 | []=>rfl
 |(i,c,v)::hs=>by simp only[a8,mW,zH,qP,zC f hs]
theorem vP: ∀hs:cK,j5 (a8 hs)=vE hs
 | []=>rfl
 |(i,c,v)::hs=>by simp only[a8,j5,vE,AY,vP hs]
theorem IS(x:KRow):x.down.refs=x.refs:=by
 cases x with
 |os T xs hs=>exact wJ hs
 |cells e cs=>exact bX cs
 |ts β ag T xs=>
  cases H:aY ag T with
  |true=>obtain⟨rfl,kk,rfl⟩:=aN.1 H;rfl
  |false=>rw[KRow.down_sl H];rfl
theorem Ct(f:i7)(x:KRow):x.down.ren f=(x.ren f).down:=by
 cases x with
 |os T xs hs=>simp only[KRow.down,aX.ren,KRow.ren,zC]
 |cells e cs=>simp only[KRow.down,aX.ren,KRow.ren,eT]
 |ts β ag T xs=>
  cases H:aY ag T with
  |true=>obtain⟨rfl,kk,rfl⟩:=aN.1 H;rfl
  |false=>simp only[KRow.ren];rw[KRow.down_sl H];rfl
theorem Ic(mem:aE)(b:Nat):AX (aB mem) b=Hv mem b:=by
 unfold AX Hv;rw[a7,d6];cases mem[b]? with
 |none=>rfl
 |some x=>cases x with
  |none=>rfl
  |some x=>exact IS x.row
theorem pO(mem:aE): ∀(n:Nat) (H I:List Nat),fF (aB mem) n H I=rF mem n H I
 |0,_,_=>rfl
 |n+1,[],_=>rfl
 |n+1,b::H,I=>by
  simp only[fF,rF,Ic,pO mem n]
theorem x8(mem:aE)(b:Nat):mR (aB mem) b=r7 mem b:=by
 unfold mR r7;rw[a7,d6];cases mem[b]? with
 |none=>rfl
 |some x=>cases x<;>rfl
theorem GU(mem:aE)(b:Nat):j3 (aB mem) b=CS mem b:=by
 unfold j3 CS;rw[a7,d6];cases mem[b]? with
 |none=>rfl
 |some x=>cases x with
  |none=>rfl
  |some x=>exact eS x.row
theorem yO(m:Nat)(keep:Bool)(mem:aE)(ids:List Nat):eU m keep (aB mem) ids=lP m keep mem ids:=by
 funext b g;unfold eU lP;rw[x8];cases r7 mem b with
 |none=>rfl
 |some h=>
  simp only[GU];cases sC b ids 0<;>rfl
theorem vG(m:Nat)(keep:Bool)(f:i7)(mem:aE): ∀(j:Nat) (ids:List Nat),dN m keep f (aB mem) j ids=aB (oM m keep f mem j ids)
 |_,[]=>rfl
 |j,b::ids=>by
  have H:=vG m keep f mem (j+1) ids;simp only[dN,oM,H];rw[a7,d6];cases mem[b]? with
  |none=>rfl
  |some x=>cases x with
   |none=>rfl
   |some x=>simp only[yh];rw[show x.down.row=x.row.down from rfl,Ct,eS];rfl
theorem A5(mem:aE)(n:Nat):cW (aB mem) n=jM mem n:=by simp only[cW,jM,dO]
theorem pD: ∀mem:aE,qD (aB mem)=eV mem
 | []=>rfl
 |none::m=>by
  have:=pD m;simp only[aB,qD,yt1,eV]at this⊢
  rw[this];rfl
 |some x::m=>by
  have:=pD m;simp only[aB,qD,yt1,eV]at this⊢
  rw[this];simp[cS.down,eS]
theorem pJ: ∀(old:List (Option Bool)) (mem:aE),mZ old (aB mem)=CL old mem
 | [],_=>by simp[mZ,CL]
 |some k::old,some x::m=>by
  have:=pJ old m
  show((bif k then x.row.down.isCells&&Nat.beq x.gen 0 else !x.row.down.isCells)&&mZ old (aB m))=_
  rw[this,eS];rfl
 |none::old,none::m=>pJ old m
 |some k::old,none::m=>rfl
 |none::old,some x::m=>rfl
 |some k::old,[]=>rfl
 |none::old,[]=>rfl
theorem CD: ∀(hs:cK) (j:Nat),cD (a8 hs) j=a8 (cD hs j)
 | [],_=>rfl
 |h::r,0=>rfl
 |h::r,j+1=>by simp only[a8,cD,CD r j]
theorem rH(c:Nat): ∀hs:cK,i6 c (a8 hs)=(kJ c hs).map λq=>(q.1,q.2.down)
 | []=>rfl
 |(i,H,v)::r=>by
  simp only[a8,i6,kJ];cases Nat.beq c H with
  |true=>rfl
  |false=>simpa using rH c r
theorem sQ{α:Type}(x:Option α):IG x=x.isNone:=by cases x<;>rfl
theorem p5{α β:Type}(x:Option α)(f:α->β):(x.map f).isNone=x.isNone:=by cases x<;>rfl
theorem getD(hs:cK)(j:Nat):(a8 hs)[j]?=(hs[j]?).map λh=>(h.1,h.2.1,h.2.2.down):=by
 induction hs generalizing j with
 |nil=>rfl
 |cons h r H=>
  cases j with
  |zero=>rfl
  |succ j=>simpa[a8]using H j
theorem GZ{mem:aE}{b:Nat}:(aB mem)[b]?=(dW mem b).map λx=>x.map cS.down:=by rw[d6,a7]
theorem HG(m:Nat)(refs:List Nat)(mem:aE)(v:KV):jX m refs (aB mem) v.down=I5 m refs mem v:=by
 have H: ∀(b g:Nat) (w:AV),(w= .msw b g\/∃o n,w= .ms b g o n)->
   jX m refs (aB mem) w=(Nat.ble m b&&Nat.beq (cB b refs) 1&&(match dW mem b with
  |some (some x)=>Nat.beq x.gen g&&!x.frz&&(match x.row with| .ts β ag T _=>!(zY β ag T)|_=>false)
  |_=>false)):=by
  intro b g w M;have J:=GZ (mem:=mem) (b:=b);rcases M with rfl|⟨o,n,rfl⟩
  ·simp only[jX,m7,J];cases dW mem b with
   |none=>rfl
   |some y=>cases y with
    |none=>rfl
    |some x=>
     simp only[yh,cS.down];cases x.row with
     |cells e cs=>rfl
     |os T xs hs=>rfl
     |ts β ag T xs=>
      cases I:aY ag T with
      |true=>obtain⟨rfl,K,rfl⟩:=aN.1 I;rfl
      |false=>rw[KRow.down_sl I];simp only[lA I]
  ·simp only[jX,m7,J];cases dW mem b with
   |none=>rfl
   |some y=>cases y with
    |none=>rfl
    |some x=>
     simp only[yh,cS.down];cases x.row with
     |cells e cs=>rfl
     |os T xs hs=>rfl
     |ts β ag T xs=>
      cases I:aY ag T with
      |true=>obtain⟨rfl,K,rfl⟩:=aN.1 I;rfl
      |false=>rw[KRow.down_sl I];simp only[lA I]
 cases v with
 |msw b g=>exact H b g (.msw b g) (.inl rfl)
 |ms b g o n=>exact H b g (.ms b g o n) (.inr ⟨o,n,rfl⟩)
 |_=>rfl
theorem sG(m:Nat)(refs:List Nat)(mem:aE)(all:cK): ∀(hs:cK) (j:Nat),jJ m refs (aB mem) (a8 all) (a8 hs) j=p4 m refs mem all hs j
 | [],_=>rfl
 |(i,c,v)::r,j=>by
  simp only[a8,jJ,p4,HG,CD,rH,p5,sQ,sG m refs mem all r]
theorem nR(m:Nat)(refs:List Nat)(mem:aE): ∀(l:aE) (b:Nat),gJ m refs (aB mem) (aB l) b=oO m refs mem l b
 | [],_=>rfl
 |none::r,b=>nR m refs mem r (b+1)
 |some x::r,b=>by
  have H:=nR m refs mem r (b+1);obtain⟨J,fz,row⟩:=x;cases row with
  |cells e cs=>exact H
  |ts β ag T xs=>
   cases I:aY ag T with
   |true=>obtain⟨rfl,kk,rfl⟩:=aN.1 I;exact H
   |false=>
    show gJ m refs (aB mem) (some ⟨J,fz,(KRow.ts β ag T xs).down⟩::aB r) b=_;rw[KRow.down_sl I];exact H
  |os T xs hs=>
   show(match jJ m refs (aB mem) (a8 hs) (a8 hs) 0 with|some k=>some (b,k)|none=>gJ m refs (aB mem) (aB r) (b+1))=_
   rw[sG,H];rfl
theorem rG{cs:List KV}{i:Nat}{v:KV}:cL cs i [v]=cs.set i v:=by simp[cL,dE]
theorem Fd{T:Ty}{x:den T}:(eE T=true/\cF (eE T) T x= .agg (aO T x))\/(eE T=false/\∃p,aO T x= [p]/\cF (eE T) T x=p/\zK p=true):=by
 cases T with
 |sl ag T=>exact .inr ⟨rfl,c8 ag T x,rfl,rfl,r8 ag T x⟩
 |int k=>exact .inl ⟨rfl,iL (.inl rfl)⟩
 |bool=>exact .inl ⟨rfl,iL (.inl rfl)⟩
 |str=>exact .inl ⟨rfl,iL (.inl rfl)⟩
 |cons a b=>exact .inl ⟨rfl,iL (.inl rfl)⟩
theorem El{T:Ty}{x z:den T}{c:Nat}{q:PV}(K:c<(aO T x).length)(h:aO T z=(aO T x).set c q):iB (cF (eE T) T x) c q=cF (eE T) T z:=by
 rcases Fd (T:=T) (x:=x)with ⟨M,I⟩|⟨M,p,I,U,O⟩
 ·rcases Fd (T:=T) (x:=z)with ⟨_,H⟩|⟨H,_⟩
  ·rw[I,H,h];rfl
  ·rw[M]at H;cases H
 ·rcases Fd (T:=T) (x:=z)with ⟨H,_⟩|⟨_,Y,W,N,h7⟩
  ·rw[M]at H;cases H
  ·rw[U,N];rw[I]at K h;have J:c=0:=by simp at K;exact K
   subst J;rw[W]at h;have V:Y=q:=by simpa using h
   cases p<;>first|exact V.symm|cases O
theorem Kz{T:Ty}{xs:List (den T)}{i:Nat}{z:den T}:(xs.map (cF (eE T) T)).set i (cF (eE T) T z)=(xs.set i z).map (cF (eE T) T):=by rw[List.map_set]
theorem mD(mem:aE)(b:Nat)(x:Option cS):aB (pE x mem b)=(aB mem).set b (x.map cS.down):=by simp[aB,dE,List.map_set]
theorem G9{v:KV}{k:Nat->KRow->Option R}(h:C5 (aQ R) mem v k=some r): ∃b row,k b row=some r/\∀β ag T K,row= .ts β ag T K->zY β ag T=false->wQ (aB mem) v.down=some (b,c8 ag T K):=by
 unfold C5 at h;split at h
 ·rename_i b g;obtain⟨x,M,h⟩:=bZ h;cases I:x.frz with
  |true=>rw[I]at h;cases h
  |false=>
   rw[I]at h;refine⟨b,x.row,h,?_⟩;intro β ag T K hr J;simp only[KV.down,wQ,M,ye,show x.down.frz=x.frz from rfl,I,yj,show x.down.row=x.row.down from rfl,hr];cases H:aY ag T with
   |true=>obtain⟨rfl,N,rfl⟩:=aN.1 H;rfl
   |false=>
    rw[lA H]at J;subst J;rw[KRow.down_sl H,bU H]
 ·rename_i b g o n;simp only[real_guard]at h;rw[bP]at h;obtain⟨W,h⟩:=h;obtain rfl:=nb.1 W;obtain⟨x,M,h⟩:=bZ h;cases I:x.frz with
  |true=>rw[I]at h;cases h
  |false=>
   rw[I]at h;simp only[yj]at h;split at h
   ·rename_i β ag T xs hr;rw[bP]at h;refine⟨b,_,h.2,?_⟩;intro β' V T' K U J;cases U;simp only[KV.down,wQ,M,ye,show x.down.frz=x.frz from rfl,I,yj,show x.down.row=x.row.down from rfl,hr];have O:=h.1;clear h;cases H:aY ag T with
    |true=>
     obtain⟨rfl,N,rfl⟩:=aN.1 H;show guardB (Nat.ble n xs.length) (some (b,PV.ints N (xs.take n)))=some (b,.ints N (xs.take n));rw[dS];exact⟨O,rfl⟩
    |false=>
     rw[lA H]at J;subst J;rw[KRow.down_sl H,bU H];simp only;rw[dS];exact⟨by rw[ye1];exact O,by rw[yv2]⟩
   ·cases h
 ·cases h
theorem MH{ag:Bool}{T:Ty}(xs I:List (den T)):NO (c8 ag T xs) (c8 ag T I)=true:=by
 cases H:aY ag T with
 |true=>obtain⟨rfl,kk,rfl⟩:=aN.1 H;exact qK.2 rfl
 |false=>rw[bU H,bU H];exact nb.2 rfl
theorem Fv{b j:Nat}{k:aE->Option R}(h:A9 (aQ R) mem b j k=some r): ∃mem',k mem'=some r/\oP (aB mem) b j=some (aB mem'):=by
 unfold A9 at h;split at h
 ·rename_i x hx;split at h
  ·rename_i T xs hs J;split at h
   ·rename_i hl M;obtain⟨b',row,h,W⟩:=G9 h;split at h
    ·rename_i β Z T' V;rw[bP]at h;obtain⟨K,h⟩:=h;simp only[yb,yq]at K;obtain⟨⟨g1,g2⟩,g3⟩:=K;have W:=W β Z T' V rfl g1;simp only[real_getN]at h;rw[Cy]at h;obtain⟨p,hpx,h⟩:=h;split at h
     ·rename_i β2 H T'' O I;rw[bP]at h;obtain⟨K,h⟩:=h;simp only[yb]at K;obtain rfl:=HS.1 K.1;obtain rfl:=Ty.beq_iff.1 K.2;rw[a7]at I;obtain⟨y,hy,U⟩:=(cV.of false T p).2 _ _ I;have N:y=c8 H T'' O:=by
       rcases U with ⟨_,_,e,_⟩|⟨_,e,_⟩|⟨_,e,_⟩|⟨_,_,_,e,rfl⟩<;>cases e
       rfl
      have Y:hl.2.1<(aO T p).length:=(yd.1 hy).1;rw[rG]at h;obtain⟨z,_,_,h,hz⟩:=j6 ((cV.of false T p).set (v:= .tsl false H T'' V) (q:=c8 H T'' V) (.inr (.inr (.inr ⟨_,_,_,rfl,rfl⟩))) hl.2.1) h;refine⟨_,h,?_⟩;unfold oP;rw[lW hx];obtain⟨gn,fz,row⟩:=x;simp only at J;subst J;rw[a7]at M;simp only[cS.down,KRow.down,getD,M,yh,ye];rw[yc1,hpx];simp only[yh,ye,b4,hy,W];rw[dS];refine⟨?_,?_⟩
      ·simp only[yb,yq];refine⟨⟨?_,g2⟩,?_⟩
       ·rw[N];exact MH _ _
       ·rw[CD,rH,p5,<-sQ];exact g3
      ·rw[mD,mD,El Y hz,Kz,CD];rfl
     ·cases h
    ·cases h
   ·cases h
  ·cases h
 ·cases h
theorem gC: ∀mem:aE,b6 (aB mem)=gL mem
 | []=>rfl
 |none::m=>gC m
 |some x::m=>by
  have H:=gC m;show x.row.down.refs++b6 (aB m)=_;rw[H,IS];rfl
theorem Ad{m:Nat}{vs:List KV}: ∀{n:Nat} {mem:aE} {k:aE->Option R},Ai (aQ R) m vs n mem k=some r->∃mem',k mem'=some r/\kR m (KV.downs vs) n (aB mem)=some (aB mem')
 |0,mem,k,h=>⟨mem,h,rfl⟩
 |n+1,mem,k,h=>by
  simp only[Ai]at h;simp only[kR,bX,gC,nR];split at h
  ·rename_i I;rw[I];exact⟨mem,h,rfl⟩
  ·rename_i q I;rw[I];obtain⟨J,h,K⟩:=Fv h;obtain⟨H,h,hs⟩:=Ad h;exact⟨H,h,by simp only[K,ye,hs]⟩
theorem JI(mem:aE)(b:Nat):Lx (aB mem) b=Hr mem b:=by
 unfold Lx Hr;rw[GZ];cases dW mem b with
 |none=>rfl
 |some y=>cases y<;>rfl
theorem Fj(m:Nat)(vs:List KV): ∀(n:Nat) (mem:aE),pN m (KV.downs vs) n (aB mem)=aB (CA m vs n mem)
 |0,_=>rfl
 |b+1,mem=>by
  simp only[pN,CA,JI,bX,gC];rw[<-Fj m vs b];congr 1;cases(Nat.ble m b&&Hr mem b&&Nat.beq (cB b (KV.refsAll vs++gL mem)) 0)with
  |false=>rfl
  |true=>simp only[yl,mD];rfl
theorem w5{m:Nat}{vs:List KV}{mem:aE}{k:aE->Option R}(h:JT (aQ R) m vs mem k=some r): ∃mem',k mem'=some r/\Bp m (KV.downs vs) (aB mem)=some (aB mem'):=by
 obtain⟨mem',I,H⟩:=Ad h;refine⟨mem',I,?_⟩;unfold Bp;rw[dO,Fj];exact H
theorem x9{keep:Bool}{old:List (Option Bool)}{vs:List KV}{k:List KV->aE->Option R}(h:AF (aQ R) keep old vs mem k=some r): ∃H mem',k H mem'=some r/\qV keep old (KV.downs vs) (aB mem)=some (KV.downs H,aB mem'):=by
 unfold AF at h;obtain⟨I,h,hs⟩:=w5 h;simp only at h;rw[bP]at h;refine⟨_,_,h.2,?_⟩;unfold qV;simp only[hs,ye,bX,A5,pO,pJ,yO,eT,vG];rw[dS];exact⟨h.1,rfl⟩
theorem Eu(m:Nat)(mem:aE)(v:KV):v.down.frz m (aB mem)=(v.frz m mem).down:=by
 cases v with
 |msw b g=>
  simp only[KV.down,AV.frz,KV.frz];cases Nat.ble m b with
  |false=>rfl
  |true=>
   simp only[yl];unfold box?;rw[a7,d6];cases mem[b]? with
   |none=>rfl
   |some x=>cases x with
    |none=>rfl
    |some x=>
     obtain⟨I,fz,row⟩:=x;simp only[yh,cS.down,c5];cases hg:Nat.beq I g with
     |false=>rfl
     |true=>
      cases row with
      |os T xs hs=>rfl
      |cells e cs=>rfl
      |ts β ag T xs=>
       cases H:aY ag T with
       |true=>obtain⟨rfl,kk,rfl⟩:=aN.1 H;rfl
       |false=>
        simp only[gI,Bool.not_false,yl3,yl];rw[KRow.down_sl H,lA H,qW H]
 |tsl β ag T xs=>rfl
 |_=>rfl
theorem sD(m:Nat)(mem:aE): ∀vs:List KV,AV.frzAll m (aB mem) (KV.downs vs)=KV.downs (KV.frzAll m mem vs)
 | []=>rfl
 |v::vs=>by simp only[KV.downs,AV.frzAll,KV.frzAll,Eu,sD m mem vs]
theorem I6(m:Nat)(mem:aE)(v:KV):kP m (aB mem) v.down=(t5 m mem v).down:=by
 cases v with
 |tup vs=>simp only[KV.down,kP,t5,sD]
 |agg vs=>simp only[KV.down,kP,t5,sD]
 |msw b g=>exact Eu m mem (.msw b g)
 |_=>rfl
theorem oT: ∀mem:aE,gA (aB mem)=rN mem
 | []=>rfl
 |none::m=>oT m
 |some x::m=>by
  have I:=oT m
  show((match x.row.down with| .cells _ cs=>AV.lentAny cs| .pvs β _ _=>β| .ints _ _=>false| .own _ _ hs=>j5 hs)||gA (aB m))=_
  rw[I];simp only[rN];congr 1;cases x.row with
  |os T xs hs=>exact vP hs
  |cells e cs=>exact f5 cs
  |ts β ag T xs=>
   cases H:aY ag T with
   |true=>obtain⟨rfl,kk,rfl⟩:=aN.1 H;rfl
   |false=>rw[KRow.down_sl H];simp only[lA H]
theorem GX(mem sub:aE)(ids:List Nat):cI (aB mem) (aB sub) ids=l6 mem sub ids:=by
 funext b g;unfold cI l6;rw[a7];cases ids[b]? with
 |none=>simp only[dO]
 |some a=>
  simp only;rw[x8,a7,d6];cases sub[b]? with
  |none=>rfl
  |some x=>cases x with
   |none=>rfl
   |some x=>
    simp only[yh];cases r7 mem a with
    |none=>rfl
    |some h=>rfl
theorem mB(f:i7)(mem:aE): ∀(ids:List Nat) (sub:aE),bE f (aB mem) ids (aB sub)=(gU f mem ids sub).map λq=>(q.1,q.2.down)
 |a::ids,some x::sub=>by
  have H:=mB f mem ids sub
  show(a,_)::bE f (aB mem) ids (aB sub)=_
  rw[H];simp only[gU,yt1];congr 2;simp only[cS.down,Ct,x8];cases r7 mem a<;>rfl
 |a::ids,none::sub=>mB f mem ids sub
 | [],[]=>rfl
 | [],_::_=>by simp[bE,gU,aB]
 |a::ids,[]=>rfl
theorem nW(f:i7): ∀sub:aE,d9 f (aB sub)=aB (vH f sub)
 | []=>rfl
 |none::m=>by
  have H:=nW f m;show none::d9 f (aB m)=_;rw[H];rfl
 |some x::m=>by
  have H:=nW f m;show some _::d9 f (aB m)=_;rw[H];show some ({gen:=0,frz:=x.frz,row:=x.row.down.ren f}:bG)::_=_;rw[Ct];rfl
theorem Dz(mem:aE)(n:Nat):(aB mem).take n=aB (mem.take n):=by simp[aB,yv2]
theorem KG(mem:aE)(n:Nat):(aB mem).drop n=aB (mem.drop n):=by simp[aB,yk3]
theorem w4: ∀cs:List KV,FU (KV.downs cs)=oG.hasMsK cs
 | []=>rfl
 |v::cs=>by
  have ih:=w4 cs;cases v<;>simp_all[KV.downs,KV.down,FU,oG.hasMsK,AV.dead,AV.goneV,AV.unkB]
theorem y6{ag:Bool}{T:Ty}{l:LK}{v:KV}{k:List (den T)->Bool->List Nat->Option R}(O:(∃b g,v= .msw b g)\/∃b g o n,v= .ms b g o n)(U:aZ P (.sl ag T) [l]=true)(V:(Ty.sl ag T).depth≤6)
  (h:vJ (aQ R) mem (.sl ag T) [v] k=some r): ∃xs β ids,k xs β ids=some r/\fX P (aB mem) l v.down=some ((KV.tsl true ag T xs).down,ids):=by
 obtain⟨x,β,ids,h,I⟩:=lH U V h;refine⟨x,β,ids,h,?_⟩;simp only[KV.downs,bY,Cy]at I;obtain⟨a,J,b,M,I⟩:=I;obtain rfl:=ya M;simp only[Option.some.injEq,Prod.mk.injEq,Bool.or_false,yg1]at I;obtain⟨h1,N,K⟩:=I;have H:a.2.1=c8 ag T x:=(yx N).1;rcases O with ⟨b,g,rfl⟩|⟨b,g,o,n,rfl⟩
 ·simp only[KV.down,fX]at J⊢
  rw[J,yh,H,K]
 ·simp only[KV.down,fX]at J⊢
  rw[J,yh,H,K]
theorem Ky{t:TypeId}{v:KV}(J: ∀b g,v≠ .msw b g)(I: ∀b g o n,v≠ .ms b g o n)(H: ∀cs,v≠ .agg cs):lend P (aB mem) t v.down=some (v.down,[]):=by
 cases v with
 |ms b g o n=>exact absurd rfl (I b g o n)
 |msw b g=>exact absurd rfl (J b g)
 |agg cs=>exact absurd rfl (H cs)
 |_=>rfl
theorem D6{l:LK}{v:KV}(I: ∀b g,v≠ .msw b g)(H: ∀b g o n,v≠ .ms b g o n):fX P (aB mem) l v.down=some (v.down,[]):=by
 cases v with
 |ms b g o n=>exact absurd rfl (H b g o n)
 |msw b g=>exact absurd rfl (I b g)
 |_=>rfl
theorem qX: ∀{T:Ty} {ls:List LK} {vs:List KV} {k:List KV->List Nat->Option R},aZ P T ls=true->T.depth≤6->oG.lendCellsK (aQ R) mem (cM T) vs k=some r->
  ∃ws ids,k ws ids=some r/\bR P (aB mem) ls (KV.downs vs)=some (KV.downs ws,ids)
 | .cons a b,ls,vs,k,H,I,h=>by
  simp only[aZ]at H;split at H
  ·rename_i l ls;simp only[yb]at H;obtain⟨⟨J,U⟩,Y⟩:=H;have W:a.depth≤6:=yc2 (Nat.le_max_left _ _) (show max a.depth b.depth≤6 from I);have V:b.depth≤6:=yc2 (Nat.le_max_right _ _) (show max a.depth b.depth≤6 from I);simp only[cM,e7 (nb.1 J),List.singleton_append]at h;exact one U W (λh=>qX Y V h) h
  ·cases H
 | .int kk,ls,vs,k,H,I,h=>lendOne rfl H I h
 | .bool,ls,vs,k,H,I,h=>lendOne rfl H I h
 | .str,ls,vs,k,H,I,h=>lendOne rfl H I h
 | .sl ag T,ls,vs,k,H,I,h=>lendOne rfl H I h
 where
 one {T:Ty} {l:LK} {K:List Ty} {ls:List LK} {vs:List KV} {k:List KV->List Nat->Option R} (H:aZ P T [l]=true) (I:T.depth≤6)
   (M: ∀{vs:List KV} {k:List KV->List Nat->Option R},oG.lendCellsK (aQ R) mem K vs k=some r->∃ws ids,k ws ids=some r/\bR P (aB mem) ls (KV.downs vs)=some (KV.downs ws,ids))
   (h:oG.lendCellsK (aQ R) mem (T::K) vs k=some r): ∃ws ids,k ws ids=some r/\bR P (aB mem) (l::ls) (KV.downs vs)=some (KV.downs ws,ids):=by
  cases vs with
  |nil=>cases h
  |cons v vs=>
   have plain:(∀b g,v≠ .msw b g)->(∀b g o n,v≠ .ms b g o n)->(oG.lendCellsK (aQ R) mem K vs λws Z=>k (v::ws) Z)=some r->∃ws ids,k ws ids=some r/\bR P (aB mem) (l::ls) (KV.downs (v::vs))=some (KV.downs ws,ids):=by
    intro J h2 h;obtain⟨ws,N,h,hr⟩:=M h;exact⟨_,_,h,by simp[KV.downs,bR,D6 J h2,hr]⟩
   cases v with
   |msw b g=>
    cases T with
    |sl ag T=>exact boxed (.inl ⟨_,_,rfl⟩) H I M h
    |_=>cases h
   |ms b g o n=>
    cases T with
    |sl ag T=>exact boxed (.inr ⟨_,_,_,_,rfl⟩) H I M h
    |_=>cases h
   |_=>exact plain (by simp) (by simp) h
 boxed {ag:Bool} {T:Ty} {l:LK} {K:List Ty} {ls:List LK} {v:KV} {vs:List KV} {k:List KV->List Nat->Option R} (hv:(∃b g,v= .msw b g)\/(∃b g o n,v= .ms b g o n)) (H:aZ P (.sl ag T) [l]=true) (I:(Ty.sl ag T).depth≤6)
   (M: ∀{vs:List KV} {k:List KV->List Nat->Option R},oG.lendCellsK (aQ R) mem K vs k=some r->∃ws ids,k ws ids=some r/\bR P (aB mem) ls (KV.downs vs)=some (KV.downs ws,ids))
   (h:(vJ (aQ R) mem (.sl ag T) [v] λxs _ l=>oG.lendCellsK (aQ R) mem K vs λws Z=>k (.tsl true ag T xs::ws) (l++Z))=some r):
   ∃ws ids,k ws ids=some r/\bR P (aB mem) (l::ls) (KV.downs (v::vs))=some (KV.downs ws,ids):=by
  obtain⟨xs,β,ids,h,O⟩:=y6 hv H I h;obtain⟨ws,N,h,hr⟩:=M h;exact⟨_,_,h,by simp[KV.downs,bR,O,hr]⟩
 lendOne {T:Ty} {ls:List LK} {vs:List KV} {k:List KV->List Nat->Option R} (J:T.size=1) (H:aZ P T ls=true) (I:T.depth≤6) (h:oG.lendCellsK (aQ R) mem (cM T) vs k=some r):
   ∃ws ids,k ws ids=some r/\bR P (aB mem) ls (KV.downs vs)=some (KV.downs ws,ids):=by
  have O:=dM H;rw[J]at O;obtain⟨l,rfl⟩:=ye2.1 O;rw[e7 J]at h;exact one H I (fun{vs k} h=>by
   cases vs with
   |nil=>exact⟨[],[],h,rfl⟩
   |cons v vs=>cases h) h
theorem Mx(ht:bL P tab){t:TypeId}{v:KV}{k:KV->List Nat->Option R}(h:oG (aQ R) tab mem t v k=some r): ∃w ids,k w ids=some r/\lend P (aB mem) t v.down=some (w.down,ids):=by
 have box:(∃b g,v= .msw b g)\/(∃b g o n,v= .ms b g o n)->(match tab t with
   |some M=>bif M.ag then none else(match M.ty with
    |some (.sl ag T)=>vJ (aQ R) mem (.sl ag T) [v] λxs _ l=>k (.tsl true ag T xs) l
    |_=>none)
   |none=>none)=some r->∃w ids,k w ids=some r/\lend P (aB mem) t v.down=some (w.down,ids):=by
  intro Z h;split at h
  ·rename_i M J;have H:=bT.of (ht _ _ J);cases V:M.ag with
   |true=>rw[V]at h;cases h
   |false=>
   rw[V]at h;simp only[yj]at h;split at h
   ·rename_i ag T hT;obtain⟨⟨ls,I,O⟩,hn,_,W⟩:=H.ty _ hT;have U:=dM O;obtain⟨l,rfl⟩:=ye2.1 (U:ls.length=1);obtain⟨xs,β,ids,h,N⟩:=y6 Z O W h;have K:leaf? P t=some l:=by
     have Y:=H.ag;rw[V]at Y;obtain⟨l2,h3,h4⟩:=eP Y I;rw[h3,(yx h4).1]
    refine⟨_,ids,h,?_⟩;rcases Z with ⟨b,g,rfl⟩|⟨b,g,o,n,rfl⟩
    ·simp only[KV.down,lend,K,ye];exact N
    ·simp only[KV.down,lend,K,ye];exact N
   ·cases h
  ·cases h
 cases v with
 |msw b g=>exact box (.inl ⟨_,_,rfl⟩) h
 |ms b g o n=>exact box (.inr ⟨_,_,_,_,rfl⟩) h
 |agg cs=>
  simp only[oG]at h;cases hm:oG.hasMsK cs with
  |true=>
   rw[hm]at h;simp only[yl]at h;split at h
   ·rename_i M J;have H:=bT.of (ht _ _ J);split at h
    ·rename_i T hT;obtain⟨⟨ls,I,O⟩,hn,_,W⟩:=H.ty _ hT;obtain⟨ws,ids,h,N⟩:=qX O W h;refine⟨_,_,h,?_⟩;simp only[KV.down,lend,w4,hm,yl,I,ye,N,yh]
    ·cases h
   ·cases h
  |false=>
   rw[hm]at h;simp only[yj]at h;exact⟨_,_,h,by simp only[KV.down,lend,w4,hm,yj]⟩
 |_=>exact⟨_,_,h,Ky (by simp) (by simp) (by simp)⟩
theorem y0(ht:bL P tab): ∀{ts:List TypeId} {vs:List KV} {k:List KV->List Nat->Option R},z6 (aQ R) tab mem ts vs k=some r->∃ws ids,k ws ids=some r/\fI P (aB mem) ts (KV.downs vs)=some (KV.downs ws,ids)
 | [],[],k,h=>⟨[],[],h,rfl⟩
 |t::ts,v::vs,k,h=>by
  simp only[z6]at h;obtain⟨w,l,h,I⟩:=Mx ht h;obtain⟨ws,ids,h,H⟩:=y0 ht h;exact⟨_,_,h,by simp[KV.downs,fI,I,H]⟩
 | [],_::_,k,h=>by cases h
 |_::_,[],k,h=>by cases h
theorem KH(ht:bL P tab){keep:Bool}{ts:List TypeId}{vs:List KV}{k:List KV->List Nat->Option R}(h:Ns (aQ R) tab keep mem ts vs k=some r): ∃ws ids,k ws ids=some r/\H9 P keep (aB mem) ts (KV.downs vs)=some (KV.downs ws,ids):=by
 cases keep with
 |true=>exact⟨vs,[],h,rfl⟩
 |false=>exact y0 ht h
def C1(C:bM)(tbl:FuncId->List aD):Prop:= ∀{R:Type} {r:R} {g:FuncId} {args:List KV} {mem:aE} {k:KV->aE->Option R},Ph (aQ R) tbl g args mem k=some r->
 ∃v m,C g (KV.downs args) (aB mem)=some (v.down,aB m)/\k v m=some r
theorem LD(ht:bL P tab){C:bM}{M:FuncId->List aD}(hC:C1 C M){raw keep:Bool}{g:FuncId}{ts:List TypeId}{I args J:List KV}{k:a9->Option R}(h:NP (aQ R) tab M raw keep g ts I args J mem k=some r):
  ∃out,k out=some r/\vQ P C raw keep g ts (KV.downs I) (KV.downs args) (KV.downs J) (aB mem)=some out.down:=by
 unfold NP at h;have V:=KH ht h;clear h;obtain⟨N,lb,h,W⟩:=V;simp only at h;rw[bP]at h;obtain⟨O,h⟩:=h;obtain⟨v,sub,Y,h⟩:=hC h;rw[bP]at h;obtain⟨H,h⟩:=h;unfold vQ;have K:KV.downs I++KV.downs N++KV.downs J=KV.downs (I++N++J):=by simp[cC]
 simp only[W,ye,K,bX,A5,pO,yO,eT,vG,Y];simp only[Dz,KG,dO,gC,oT,AY,GX,mB,nW];generalize rF mem (jM mem (KV.refsAll (I++N++J)).length) (KV.refsAll (I++N++J)) []=ids at h O H⊢
 have hr:(bif raw then v.down else kP ids.length (aB sub) v.down)=(bif raw then v else t5 ids.length sub v).down:=by
  cases raw with
  |true=>rfl
  |false=>exact I6 _ _ _
 rw[hr];simp only[s0,qP];cases U:e6 ids.length (bif raw then v else t5 ids.length sub v).refs&&e6 ids.length (gL (sub.take ids.length))with
 |true=>
  rw[U]at h;simp only[yl]at h;refine⟨_,h,?_⟩;rw[dS];refine⟨O,?_⟩;rw[dS];refine⟨H,?_⟩;simp only[yl];rfl
 |false=>
  rw[U]at h;simp only[yj]at h;refine⟨_,h,?_⟩;rw[dS];refine⟨O,?_⟩;rw[dS];refine⟨H,?_⟩;simp only[yj];rfl
end
end Go.Ab
