import Derived.Test.YtjjjbgicidhpfaaDoorLib19
set_option linter.unusedVariables false
set_option linter.unusedSectionVars false
set_option linter.unusedSimpArgs false
namespace Go.Ab
variable [cS]
section
variable {P:Program} {R:Type} {r:R} {mem:aH} {tab:TypeId->Option TI}
mutual
theorem AG: ∀v:KV,v.down.refs=v.refs
 | .lit _=>rfl
 | .tsl _ _ _ _=>rfl
 | .el _ _ _ _ _=>rfl
 | .ptr _ _ _ _=>rfl
 | .ms _ _ _ _=>rfl
 | .msw _ _=>rfl
 | .fn f J H=>by simp only[KV.down,AV.refs,KV.refs,cL J,cL H]
 | .agg cs=>by simp only[KV.down,AV.refs,KV.refs,cL cs]
 | .tup vs=>by simp only[KV.down,AV.refs,KV.refs,cL vs]
 | .dead=>rfl
 | .gone=>rfl
 | .unkB=>rfl
theorem cL: ∀vs:List KV,AV.refsAll (KV.downs vs)=KV.refsAll vs
 | []=>rfl
 |v::vs=>by simp only[KV.downs,AV.refsAll,KV.refsAll,AG v,cL vs]
end
mutual
theorem Ak(f:mS): ∀v:KV,v.down.ren f=(v.ren f).down
 | .lit _=>rfl
 | .tsl _ _ _ _=>rfl
 | .el _ _ _ _ _=>rfl
 | .ptr b g i c=>by simp only[KV.down,AV.ren,KV.ren];cases f b g<;>rfl
 | .ms b g o n=>by simp only[KV.down,AV.ren,KV.ren];cases f b g<;>rfl
 | .msw b g=>by simp only[KV.down,AV.ren,KV.ren];cases f b g<;>rfl
 | .fn h J H=>by simp only[KV.down,AV.ren,KV.ren,gU f J,gU f H]
 | .agg cs=>by simp only[KV.down,AV.ren,KV.ren,gU f cs]
 | .tup vs=>by simp only[KV.down,AV.ren,KV.ren,gU f vs]
 | .dead=>rfl
 | .gone=>rfl
 | .unkB=>rfl
theorem gU(f:mS): ∀vs:List KV,AV.renAll f (KV.downs vs)=KV.downs (KV.renAll f vs)
 | []=>rfl
 |v::vs=>by simp only[KV.downs,AV.renAll,KV.renAll,Ak f v,gU f vs]
end
mutual
theorem FE: ∀v:KV,v.down.lent=v.lent
 | .lit _=>rfl
 | .tsl _ _ _ _=>rfl
 | .el _ _ _ _ _=>rfl
 | .ptr _ _ _ _=>rfl
 | .ms _ _ _ _=>rfl
 | .msw _ _=>rfl
 | .fn f J H=>by simp only[KV.down,AV.lent,KV.lent,jX J,jX H]
 | .agg cs=>by simp only[KV.down,AV.lent,KV.lent,jX cs]
 | .tup vs=>by simp only[KV.down,AV.lent,KV.lent,jX vs]
 | .dead=>rfl
 | .gone=>rfl
 | .unkB=>rfl
theorem jX: ∀vs:List KV,AV.lentAny (KV.downs vs)=KV.lentAny vs
 | []=>rfl
 |v::vs=>by simp only[KV.downs,AV.lentAny,KV.lentAny,FE v,jX vs]
end
theorem BF: ∀hs:dL,gL (bI hs)=AY hs
 | []=>rfl
 |(i,c,v)::hs=>by simp only[bI,gL,AY,AG,BF hs]
theorem C6(f:mS): ∀hs:dL,rP f (bI hs)=bI (C5 f hs)
 | []=>rfl
 |(i,c,v)::hs=>by simp only[bI,rP,C5,Ak,C6 f hs]
theorem Bk: ∀hs:dL,oH (bI hs)=AD hs
 | []=>rfl
 |(i,c,v)::hs=>by simp only[bI,oH,AD,FE,Bk hs]
theorem NE(x:KRow):x.down.refs=x.refs:=by
 cases x with
 |os T xs hs=>exact BF hs
 |cells e cs=>exact cL cs
 |ts β ag T xs=>
  cases H:bD ag T with
  |true=>obtain⟨rfl,kk,rfl⟩:=aS.1 H;rfl
  |false=>rw[KRow.down_sl H];rfl
theorem Hn(f:mS)(x:KRow):x.down.ren f=(x.ren f).down:=by
 cases x with
 |os T xs hs=>simp only[KRow.down,bC.ren,KRow.ren,C6]
 |cells e cs=>simp only[KRow.down,bC.ren,KRow.ren,gU]
 |ts β ag T xs=>
  cases H:bD ag T with
  |true=>obtain⟨rfl,kk,rfl⟩:=aS.1 H;rfl
  |false=>simp only[KRow.ren];rw[KRow.down_sl H];rfl
theorem Nx(mem:aH)(b:Nat):FH (aD mem) b=Mo mem b:=by
 unfold FH Mo;rw[bH,fT];cases mem[b]? with
 |none=>rfl
 |some x=>cases x with
  |none=>rfl
  |some x=>exact NE x.row
theorem vW(mem:aH): ∀(n:Nat) (H seen:List Nat),i9 (aD mem) n H seen=Av mem n H seen
 |0,_,_=>rfl
 |n+1,[],_=>rfl
 |n+1,b::H,seen=>by
  simp only[i9,Av,Nx,vW mem n]
theorem Ca(mem:aH)(b:Nat):rK (aD mem) b=Au mem b:=by
 unfold rK Au;rw[bH,fT];cases mem[b]? with
 |none=>rfl
 |some x=>cases x<;>rfl
theorem LG(mem:aH)(b:Nat):nS (aD mem) b=Iw mem b:=by
 unfold nS Iw;rw[bH,fT];cases mem[b]? with
 |none=>rfl
 |some x=>cases x with
  |none=>rfl
  |some x=>exact gT x.row
theorem B4(m:Nat)(keep:Bool)(mem:aH)(ids:List Nat):gR m keep (aD mem) ids=qD m keep mem ids:=by
 funext b g;unfold gR qD;rw[Ca];cases Au mem b with
 |none=>rfl
 |some h=>
  simp only[LG];cases As b ids 0<;>rfl
theorem Ba(m:Nat)(keep:Bool)(f:mS)(mem:aH): ∀(j:Nat) (ids:List Nat),e7 m keep f (aD mem) j ids=aD (sT m keep f mem j ids)
 |_,[]=>rfl
 |j,b::ids=>by
  have H:=Ba m keep f mem (j+1) ids;simp only[e7,sT,H];rw[bH,fT];cases mem[b]? with
  |none=>rfl
  |some x=>cases x with
   |none=>rfl
   |some x=>simp only[yl];rw[show x.down.row=x.row.down from rfl,Hn,gT];rfl
theorem Fz(mem:aH)(n:Nat):d8 (aD mem) n=nC mem n:=by simp only[d8,nC,e8]
theorem vS: ∀mem:aH,x9 (aD mem)=iD mem
 | []=>rfl
 |none::m=>by
  have:=vS m;simp only[aD,x9,yl2,iD]at this⊢
  rw[this];rfl
 |some x::m=>by
  have:=vS m;simp only[aD,x9,yl2,iD]at this⊢
  rw[this];simp[dW.down,gT]
theorem v9: ∀(old:List (Option Bool)) (mem:aH),q8 old (aD mem)=Jk old mem
 | [],_=>by simp[q8,Jk]
 |some k::old,some x::m=>by
  have:=v9 old m
  show((bif k then x.row.down.isCells&&Nat.beq x.gen 0 else !x.row.down.isCells)&&q8 old (aD m))=_
  rw[this,gT];rfl
 |none::old,none::m=>v9 old m
 |some k::old,none::m=>rfl
 |none::old,some x::m=>rfl
 |some k::old,[]=>rfl
 |none::old,[]=>rfl
theorem Hu: ∀(hs:dL) (j:Nat),dB (bI hs) j=bI (dB hs j)
 | [],_=>rfl
 |h::r,0=>rfl
 |h::r,j+1=>by simp only[bI,dB,Hu r j]
theorem z6(c:Nat): ∀hs:dL,mV c (bI hs)=(oZ c hs).map λq=>(q.1,q.2.down)
 | []=>rfl
 |(i,H,v)::r=>by
  simp only[bI,mV,oZ];cases Nat.beq c H with
  |true=>rfl
  |false=>simpa using z6 c r
theorem A8{α:Type}(x:Option α):M5 x=x.isNone:=by cases x<;>rfl
theorem vX{α β:Type}(x:Option α)(f:α->β):(x.map f).isNone=x.isNone:=by cases x<;>rfl
theorem getD(hs:dL)(j:Nat):(bI hs)[j]?=(hs[j]?).map λh=>(h.1,h.2.1,h.2.2.down):=by
 induction hs generalizing j with
 |nil=>rfl
 |cons h r H=>
  cases j with
  |zero=>rfl
  |succ j=>simpa[bI]using H j
theorem ME{mem:aH}{b:Nat}:(aD mem)[b]?=(fD mem b).map λx=>x.map dW.down:=by rw[fT,bH]
theorem L3(m:Nat)(refs:List Nat)(mem:aH)(v:KV):nP m refs (aD mem) v.down=OF m refs mem v:=by
 have H: ∀(b g:Nat) (w:AV),(w= .msw b g\/∃o n,w= .ms b g o n)->
   nP m refs (aD mem) w=(Nat.ble m b&&Nat.beq (dC b refs) 1&&(match fD mem b with
  |some (some x)=>Nat.beq x.gen g&&!x.frz&&(match x.row with| .ts β ag T _=>!(CZ β ag T)|_=>false)
  |_=>false)):=by
  intro b g w N;have K:=ME (mem:=mem) (b:=b);rcases N with rfl|⟨o,n,rfl⟩
  ·simp only[nP,rO,K];cases fD mem b with
   |none=>rfl
   |some y=>cases y with
    |none=>rfl
    |some x=>
     simp only[yl,dW.down];cases x.row with
     |cells e cs=>rfl
     |os T xs hs=>rfl
     |ts β ag T xs=>
      cases J:bD ag T with
      |true=>obtain⟨rfl,M,rfl⟩:=aS.1 J;rfl
      |false=>rw[KRow.down_sl J];simp only[pJ J]
  ·simp only[nP,rO,K];cases fD mem b with
   |none=>rfl
   |some y=>cases y with
    |none=>rfl
    |some x=>
     simp only[yl,dW.down];cases x.row with
     |cells e cs=>rfl
     |os T xs hs=>rfl
     |ts β ag T xs=>
      cases J:bD ag T with
      |true=>obtain⟨rfl,M,rfl⟩:=aS.1 J;rfl
      |false=>rw[KRow.down_sl J];simp only[pJ J]
 cases v with
 |msw b g=>exact H b g (.msw b g) (.inl rfl)
 |ms b g o n=>exact H b g (.ms b g o n) (.inr ⟨o,n,rfl⟩)
 |_=>rfl
theorem zG(m:Nat)(refs:List Nat)(mem:aH)(all:dL): ∀(hs:dL) (j:Nat),m7 m refs (aD mem) (bI all) (bI hs) j=vZ m refs mem all hs j
 | [],_=>rfl
 |(i,c,v)::r,j=>by
  simp only[bI,m7,vZ,L3,Hu,z6,vX,A8,zG m refs mem all r]
theorem r6(m:Nat)(refs:List Nat)(mem:aH): ∀(l:aH) (b:Nat),kK m refs (aD mem) (aD l) b=sP m refs mem l b
 | [],_=>rfl
 |none::r,b=>r6 m refs mem r (b+1)
 |some x::r,b=>by
  have H:=r6 m refs mem r (b+1);obtain⟨K,fz,row⟩:=x;cases row with
  |cells e cs=>exact H
  |ts β ag T xs=>
   cases J:bD ag T with
   |true=>obtain⟨rfl,kk,rfl⟩:=aS.1 J;exact H
   |false=>
    show kK m refs (aD mem) (some ⟨K,fz,(KRow.ts β ag T xs).down⟩::aD r) b=_;rw[KRow.down_sl J];exact H
  |os T xs hs=>
   show(match m7 m refs (aD mem) (bI hs) (bI hs) 0 with|some k=>some (b,k)|none=>kK m refs (aD mem) (aD r) (b+1))=_
   rw[zG,H];rfl
theorem y6{cs:List KV}{i:Nat}{v:KV}:dM cs i [v]=cs.set i v:=by simp[dM,eS]
theorem H9{T:Ty}{x:den T}:(gF T=true/\c9 (gF T) T x= .agg (aV T x))\/(gF T=false/\∃p,aV T x= [p]/\c9 (gF T) T x=p/\Dh p=true):=by
 cases T with
 |sl ag T=>exact .inr ⟨rfl,eJ ag T x,rfl,rfl,zJ ag T x⟩
 |int k=>exact .inl ⟨rfl,mP (.inl rfl)⟩
 |bool=>exact .inl ⟨rfl,mP (.inl rfl)⟩
 |str=>exact .inl ⟨rfl,mP (.inl rfl)⟩
 |cons a b=>exact .inl ⟨rfl,mP (.inl rfl)⟩
theorem IQ{T:Ty}{x z:den T}{c:Nat}{q:PV}(hc:c<(aV T x).length)(h:aV T z=(aV T x).set c q):lT (c9 (gF T) T x) c q=c9 (gF T) T z:=by
 rcases H9 (T:=T) (x:=x)with ⟨K,J⟩|⟨K,p,J,V,N⟩
 ·rcases H9 (T:=T) (x:=z)with ⟨_,H⟩|⟨H,_⟩
  ·rw[J,H,h];rfl
  ·rw[K]at H;cases H
 ·rcases H9 (T:=T) (x:=z)with ⟨H,_⟩|⟨_,W,U,O,h7⟩
  ·rw[K]at H;cases H
  ·rw[V,O];rw[J]at hc h;have M:c=0:=by simp at hc;exact hc
   subst M;rw[U]at h;have Y:W=q:=by simpa using h
   cases p<;>first|exact Y.symm|cases N
theorem P5{T:Ty}{xs:List (den T)}{i:Nat}{z:den T}:(xs.map (c9 (gF T) T)).set i (c9 (gF T) T z)=(xs.set i z).map (c9 (gF T) T):=by rw[List.map_set]
theorem pX(mem:aH)(b:Nat)(x:Option dW):aD (wM x mem b)=(aD mem).set b (x.map dW.down):=by simp[aD,eS,List.map_set]
theorem MJ{v:KV}{k:Nat->KRow->Option R}(h:JH (aZ R) mem v k=some r): ∃b row,k b row=some r/\∀β ag T K,row= .ts β ag T K->CZ β ag T=false->BU (aD mem) v.down=some (b,eJ ag T K):=by
 unfold JH at h;split at h
 ·rename_i b g;obtain⟨x,M,h⟩:=cR h;cases hf:x.frz with
  |true=>rw[hf]at h;cases h
  |false=>
   rw[hf]at h;refine⟨b,x.row,h,?_⟩;intro β ag T K hr J;simp only[KV.down,BU,M,ya,show x.down.frz=x.frz from rfl,hf,yg,show x.down.row=x.row.down from rfl,hr];cases H:bD ag T with
   |true=>obtain⟨rfl,N,rfl⟩:=aS.1 H;rfl
   |false=>
    rw[pJ H]at J;subst J;rw[KRow.down_sl H,cO H]
 ·rename_i b g o n;simp only[real_guard]at h;rw[cJ]at h;obtain⟨W,h⟩:=h;obtain rfl:=nb.1 W;obtain⟨x,M,h⟩:=cR h;cases hf:x.frz with
  |true=>rw[hf]at h;cases h
  |false=>
   rw[hf]at h;simp only[yg]at h;split at h
   ·rename_i β ag T xs hr;rw[cJ]at h;refine⟨b,_,h.2,?_⟩;intro β' V T' K U J;cases U;simp only[KV.down,BU,M,ya,show x.down.frz=x.frz from rfl,hf,yg,show x.down.row=x.row.down from rfl,hr];have O:=h.1;clear h;cases H:bD ag T with
    |true=>
     obtain⟨rfl,N,rfl⟩:=aS.1 H;show guardB (Nat.ble n xs.length) (some (b,PV.ints N (xs.take n)))=some (b,.ints N (xs.take n));rw[e9];exact⟨O,rfl⟩
    |false=>
     rw[pJ H]at J;subst J;rw[KRow.down_sl H,cO H];simp only;rw[e9];exact⟨by rw[ym1];exact O,by rw[yp3]⟩
   ·cases h
 ·cases h
theorem Sk{ag:Bool}{T:Ty}(xs J:List (den T)):Tm (eJ ag T xs) (eJ ag T J)=true:=by
 cases H:bD ag T with
 |true=>obtain⟨rfl,kk,rfl⟩:=aS.1 H;exact yR.2 rfl
 |false=>rw[cO H,cO H];exact nb.2 rfl
theorem Ka{b j:Nat}{k:aH->Option R}(h:FU (aZ R) mem b j k=some r): ∃mem',k mem'=some r/\sQ (aD mem) b j=some (aD mem'):=by
 unfold FU at h;split at h
 ·rename_i x hx;split at h
  ·rename_i T xs hs K;split at h
   ·rename_i hl O;obtain⟨b',row,h,hp⟩:=MJ h;split at h
    ·rename_i β Y T' U;rw[cJ]at h;obtain⟨M,h⟩:=h;simp only[yc,yx]at M;obtain⟨⟨g1,g2⟩,g3⟩:=M;have hp:=hp β Y T' U rfl g1;simp only[real_getN]at h;rw[Hx]at h;obtain⟨p,V,h⟩:=h;split at h
     ·rename_i β2 H T'' Z J;rw[cJ]at h;obtain⟨M,h⟩:=h;simp only[yc]at M;obtain rfl:=MP.1 M.1;obtain rfl:=Ty.beq_iff.1 M.2;rw[bH]at J;obtain⟨y,hy,W⟩:=(dZ.of false T p).2 _ _ J;have N:y=eJ H T'' Z:=by
       rcases W with ⟨_,_,e,_⟩|⟨_,e,_⟩|⟨_,e,_⟩|⟨_,_,_,e,rfl⟩<;>cases e
       rfl
      have hlt:hl.2.1<(aV T p).length:=(yd.1 hy).1;rw[y6]at h;obtain⟨z,_,_,h,hz⟩:=oA ((dZ.of false T p).set (v:= .tsl false H T'' U) (q:=eJ H T'' U) (.inr (.inr (.inr ⟨_,_,_,rfl,rfl⟩))) hl.2.1) h;refine⟨_,h,?_⟩;unfold sQ;rw[pZ hx];obtain⟨gn,fz,row⟩:=x;simp only at K;subst K;rw[bH]at O;simp only[dW.down,KRow.down,getD,O,yl,ya];rw[yh1,V];simp only[yl,ya,cU,hy,hp];rw[e9];refine⟨?_,?_⟩
      ·simp only[yc,yx];refine⟨⟨?_,g2⟩,?_⟩
       ·rw[N];exact Sk _ _
       ·rw[Hu,z6,vX,<-A8];exact g3
      ·rw[pX,pX,IQ hlt hz,P5,Hu];rfl
     ·cases h
    ·cases h
   ·cases h
  ·cases h
 ·cases h
theorem j9: ∀mem:aH,cV (aD mem)=kO mem
 | []=>rfl
 |none::m=>j9 m
 |some x::m=>by
  have H:=j9 m;show x.row.down.refs++cV (aD m)=_;rw[H,NE];rfl
theorem D5{m:Nat}{vs:List KV}: ∀{n:Nat} {mem:aH} {k:aH->Option R},CT (aZ R) m vs n mem k=some r->∃mem',k mem'=some r/\pA m (KV.downs vs) n (aD mem)=some (aD mem')
 |0,mem,k,h=>⟨mem,h,rfl⟩
 |n+1,mem,k,h=>by
  simp only[CT]at h;simp only[pA,cL,j9,r6];split at h
  ·rename_i hf;rw[hf];exact⟨mem,h,rfl⟩
  ·rename_i q hf;rw[hf];obtain⟨J,h,K⟩:=Ka h;obtain⟨H,h,hs⟩:=D5 h;exact⟨H,h,by simp only[K,ya,hs]⟩
theorem PC(mem:aH)(b:Nat):QI (aD mem) b=Ml mem b:=by
 unfold QI Ml;rw[ME];cases fD mem b with
 |none=>rfl
 |some y=>cases y<;>rfl
theorem Ji(m:Nat)(vs:List KV): ∀(n:Nat) (mem:aH),wR m (KV.downs vs) n (aD mem)=aD (Hp m vs n mem)
 |0,_=>rfl
 |b+1,mem=>by
  simp only[wR,Hp,PC,cL,j9];rw[<-Ji m vs b];congr 1;cases(Nat.ble m b&&Ml mem b&&Nat.beq (dC b (KV.refsAll vs++kO mem)) 0)with
  |false=>rfl
  |true=>simp only[yh,pX];rfl
theorem Cv{m:Nat}{vs:List KV}{mem:aH}{k:aH->Option R}(h:O8 (aZ R) m vs mem k=some r): ∃mem',k mem'=some r/\GY m (KV.downs vs) (aD mem)=some (aD mem'):=by
 obtain⟨mem',J,H⟩:=D5 h;refine⟨mem',J,?_⟩;unfold GY;rw[e8,Ji];exact H
theorem Cz{keep:Bool}{old:List (Option Bool)}{vs:List KV}{k:List KV->aH->Option R}(h:E1 (aZ R) keep old vs mem k=some r): ∃H mem',k H mem'=some r/\At keep old (KV.downs vs) (aD mem)=some (KV.downs H,aD mem'):=by
 unfold E1 at h;obtain⟨J,h,hs⟩:=Cv h;simp only at h;rw[cJ]at h;refine⟨_,_,h.2,?_⟩;unfold At;simp only[hs,ya,cL,Fz,vW,v9,B4,gU,Ba];rw[e9];exact⟨h.1,rfl⟩
theorem IB(m:Nat)(mem:aH)(v:KV):v.down.frz m (aD mem)=(v.frz m mem).down:=by
 cases v with
 |msw b g=>
  simp only[KV.down,AV.frz,KV.frz];cases Nat.ble m b with
  |false=>rfl
  |true=>
   simp only[yh];unfold box?;rw[bH,fT];cases mem[b]? with
   |none=>rfl
   |some x=>cases x with
    |none=>rfl
    |some x=>
     obtain⟨J,fz,row⟩:=x;simp only[yl,dW.down,eC];cases hg:Nat.beq J g with
     |false=>rfl
     |true=>
      cases row with
      |os T xs hs=>rfl
      |cells e cs=>rfl
      |ts β ag T xs=>
       cases H:bD ag T with
       |true=>obtain⟨rfl,kk,rfl⟩:=aS.1 H;rfl
       |false=>
        simp only[kJ,yo2,yj1,yh];rw[KRow.down_sl H,pJ H,AB H]
 |tsl β ag T xs=>rfl
 |_=>rfl
theorem Al(m:Nat)(mem:aH): ∀vs:List KV,AV.frzAll m (aD mem) (KV.downs vs)=KV.downs (KV.frzAll m mem vs)
 | []=>rfl
 |v::vs=>by simp only[KV.downs,AV.frzAll,KV.frzAll,IB,Al m mem vs]
theorem Ny(m:Nat)(mem:aH)(v:KV):oV m (aD mem) v.down=(AZ m mem v).down:=by
 cases v with
 |tup vs=>simp only[KV.down,oV,AZ,Al]
 |agg vs=>simp only[KV.down,oV,AZ,Al]
 |msw b g=>exact IB m mem (.msw b g)
 |_=>rfl
theorem vQ: ∀mem:aH,kC (aD mem)=zL mem
 | []=>rfl
 |none::m=>vQ m
 |some x::m=>by
  have J:=vQ m
  show((match x.row.down with| .cells _ cs=>AV.lentAny cs| .pvs β _ _=>β| .ints _ _=>false| .own _ _ hs=>oH hs)||kC (aD m))=_
  rw[J];simp only[zL];congr 1;cases x.row with
  |os T xs hs=>exact Bk hs
  |cells e cs=>exact jX cs
  |ts β ag T xs=>
   cases H:bD ag T with
   |true=>obtain⟨rfl,kk,rfl⟩:=aS.1 H;rfl
   |false=>rw[KRow.down_sl H];simp only[pJ H]
theorem MF(mem sub:aH)(ids:List Nat):dF (aD mem) (aD sub) ids=qG mem sub ids:=by
 funext b g;unfold dF qG;rw[bH];cases ids[b]? with
 |none=>simp only[e8]
 |some a=>
  simp only;rw[Ca,bH,fT];cases sub[b]? with
  |none=>rfl
  |some x=>cases x with
   |none=>rfl
   |some x=>
    simp only[yl];cases Au mem a with
    |none=>rfl
    |some h=>rfl
theorem qA(f:mS)(mem:aH): ∀(ids:List Nat) (sub:aH),bR f (aD mem) ids (aD sub)=(lE f mem ids sub).map λq=>(q.1,q.2.down)
 |a::ids,some x::sub=>by
  have H:=qA f mem ids sub
  show(a,_)::bR f (aD mem) ids (aD sub)=_
  rw[H];simp only[lE,yl2];congr 2;simp only[dW.down,Hn,Ca];cases Au mem a<;>rfl
 |a::ids,none::sub=>qA f mem ids sub
 | [],[]=>rfl
 | [],_::_=>by simp[bR,lE,aD]
 |a::ids,[]=>rfl
theorem sB(f:mS): ∀sub:aH,fZ f (aD sub)=aD (AQ f sub)
 | []=>rfl
 |none::m=>by
  have H:=sB f m;show none::fZ f (aD m)=_;rw[H];rfl
 |some x::m=>by
  have H:=sB f m;show some _::fZ f (aD m)=_;rw[H];show some ({gen:=0,frz:=x.frz,row:=x.row.down.ren f}:bV)::_=_;rw[Hn];rfl
theorem HW(mem:aH)(n:Nat):(aD mem).take n=aD (mem.take n):=by simp[aD,yp3]
theorem Pc(mem:aH)(n:Nat):(aD mem).drop n=aD (mem.drop n):=by simp[aD,yh4]
theorem B3: ∀cs:List KV,KF (KV.downs cs)=sK.hasMsK cs
 | []=>rfl
 |v::cs=>by
  have ih:=B3 cs;cases v<;>simp_all[KV.downs,KV.down,KF,sK.hasMsK,AV.dead,AV.goneV,AV.unkB]
theorem C7{ag:Bool}{T:Ty}{l:LK}{v:KV}{k:List (den T)->Bool->List Nat->Option R}(U:(∃b g,v= .msw b g)\/∃b g o n,v= .ms b g o n)(hc:bE P (.sl ag T) [l]=true)(N:(Ty.sl ag T).depth≤6)
  (h:Bj (aZ R) mem (.sl ag T) [v] k=some r): ∃xs β ids,k xs β ids=some r/\jQ P (aD mem) l v.down=some ((KV.tsl true ag T xs).down,ids):=by
 obtain⟨x,β,ids,h,H⟩:=pS hc N h;refine⟨x,β,ids,h,?_⟩;simp only[KV.downs,cP,Hx]at H;obtain⟨a,K,b,V,H⟩:=H;obtain rfl:=yb V;simp only[Option.some.injEq,Prod.mk.injEq,Bool.or_false,ys1]at H;obtain⟨h1,O,M⟩:=H;have J:a.2.1=eJ ag T x:=(yd1 O).1;rcases U with ⟨b,g,rfl⟩|⟨b,g,o,n,rfl⟩
 ·simp only[KV.down,jQ]at K⊢
  rw[K,yl,J,M]
 ·simp only[KV.down,jQ]at K⊢
  rw[K,yl,J,M]
theorem P4{t:TypeId}{v:KV}(K: ∀b g,v≠ .msw b g)(J: ∀b g o n,v≠ .ms b g o n)(H: ∀cs,v≠ .agg cs):lend P (aD mem) t v.down=some (v.down,[]):=by
 cases v with
 |ms b g o n=>exact absurd rfl (J b g o n)
 |msw b g=>exact absurd rfl (K b g)
 |agg cs=>exact absurd rfl (H cs)
 |_=>rfl
theorem HT{l:LK}{v:KV}(J: ∀b g,v≠ .msw b g)(H: ∀b g o n,v≠ .ms b g o n):jQ P (aD mem) l v.down=some (v.down,[]):=by
 cases v with
 |ms b g o n=>exact absurd rfl (H b g o n)
 |msw b g=>exact absurd rfl (J b g)
 |_=>rfl
theorem Ay: ∀{T:Ty} {ls:List LK} {vs:List KV} {k:List KV->List Nat->Option R},bE P T ls=true->T.depth≤6->sK.lendCellsK (aZ R) mem (dO T) vs k=some r->
  ∃ws ids,k ws ids=some r/\cG P (aD mem) ls (KV.downs vs)=some (KV.downs ws,ids)
 | .cons a b,ls,vs,k,hc,H,h=>by
  simp only[bE]at hc;split at hc
  ·rename_i l ls;simp only[yc]at hc;obtain⟨⟨K,Z⟩,W⟩:=hc;have U:a.depth≤6:=yv2 (Nat.le_max_left _ _) (show max a.depth b.depth≤6 from H);have V:b.depth≤6:=yv2 (Nat.le_max_right _ _) (show max a.depth b.depth≤6 from H);simp only[dO,iM (nb.1 K),List.singleton_append]at h;exact one Z U (λh=>Ay W V h) h
  ·cases hc
 | .int kk,ls,vs,k,hc,H,h=>lendOne rfl hc H h
 | .bool,ls,vs,k,hc,H,h=>lendOne rfl hc H h
 | .str,ls,vs,k,hc,H,h=>lendOne rfl hc H h
 | .sl ag T,ls,vs,k,hc,H,h=>lendOne rfl hc H h
 where
 one {T:Ty} {l:LK} {J:List Ty} {ls:List LK} {vs:List KV} {k:List KV->List Nat->Option R} (hc:bE P T [l]=true) (H:T.depth≤6)
   (N: ∀{vs:List KV} {k:List KV->List Nat->Option R},sK.lendCellsK (aZ R) mem J vs k=some r->∃ws ids,k ws ids=some r/\cG P (aD mem) ls (KV.downs vs)=some (KV.downs ws,ids))
   (h:sK.lendCellsK (aZ R) mem (T::J) vs k=some r): ∃ws ids,k ws ids=some r/\cG P (aD mem) (l::ls) (KV.downs vs)=some (KV.downs ws,ids):=by
  cases vs with
  |nil=>cases h
  |cons v vs=>
   have plain:(∀b g,v≠ .msw b g)->(∀b g o n,v≠ .ms b g o n)->(sK.lendCellsK (aZ R) mem J vs λws Y=>k (v::ws) Y)=some r->∃ws ids,k ws ids=some r/\cG P (aD mem) (l::ls) (KV.downs (v::vs))=some (KV.downs ws,ids):=by
    intro K h2 h;obtain⟨ws,M,h,hr⟩:=N h;exact⟨_,_,h,by simp[KV.downs,cG,HT K h2,hr]⟩
   cases v with
   |msw b g=>
    cases T with
    |sl ag T=>exact boxed (.inl ⟨_,_,rfl⟩) hc H N h
    |_=>cases h
   |ms b g o n=>
    cases T with
    |sl ag T=>exact boxed (.inr ⟨_,_,_,_,rfl⟩) hc H N h
    |_=>cases h
   |_=>exact plain (by simp) (by simp) h
 boxed {ag:Bool} {T:Ty} {l:LK} {J:List Ty} {ls:List LK} {v:KV} {vs:List KV} {k:List KV->List Nat->Option R} (hv:(∃b g,v= .msw b g)\/(∃b g o n,v= .ms b g o n)) (hc:bE P (.sl ag T) [l]=true) (H:(Ty.sl ag T).depth≤6)
   (N: ∀{vs:List KV} {k:List KV->List Nat->Option R},sK.lendCellsK (aZ R) mem J vs k=some r->∃ws ids,k ws ids=some r/\cG P (aD mem) ls (KV.downs vs)=some (KV.downs ws,ids))
   (h:(Bj (aZ R) mem (.sl ag T) [v] λxs _ l=>sK.lendCellsK (aZ R) mem J vs λws Y=>k (.tsl true ag T xs::ws) (l++Y))=some r):
   ∃ws ids,k ws ids=some r/\cG P (aD mem) (l::ls) (KV.downs (v::vs))=some (KV.downs ws,ids):=by
  obtain⟨xs,β,ids,h,O⟩:=C7 hv hc H h;obtain⟨ws,M,h,hr⟩:=N h;exact⟨_,_,h,by simp[KV.downs,cG,O,hr]⟩
 lendOne {T:Ty} {ls:List LK} {vs:List KV} {k:List KV->List Nat->Option R} (K:T.size=1) (hc:bE P T ls=true) (H:T.depth≤6) (h:sK.lendCellsK (aZ R) mem (dO T) vs k=some r):
   ∃ws ids,k ws ids=some r/\cG P (aD mem) ls (KV.downs vs)=some (KV.downs ws,ids):=by
  have O:=e6 hc;rw[K]at O;obtain⟨l,rfl⟩:=yw2.1 O;rw[iM K]at h
  exact one hc H (fun{vs k} h=>by
   cases vs with
   |nil=>exact⟨[],[],h,rfl⟩
   |cons v vs=>cases h) h
theorem Si(ht:b9 P tab){t:TypeId}{v:KV}{k:KV->List Nat->Option R}(h:sK (aZ R) tab mem t v k=some r): ∃w ids,k w ids=some r/\lend P (aD mem) t v.down=some (w.down,ids):=by
 have box:(∃b g,v= .msw b g)\/(∃b g o n,v= .ms b g o n)->(match tab t with
   |some M=>bif M.ag then none else(match M.ty with
    |some (.sl ag T)=>Bj (aZ R) mem (.sl ag T) [v] λxs _ l=>k (.tsl true ag T xs) l
    |_=>none)
   |none=>none)=some r->∃w ids,k w ids=some r/\lend P (aD mem) t v.down=some (w.down,ids):=by
  intro Y h;split at h
  ·rename_i M J;have H:=cH.of (ht _ _ J);cases V:M.ag with
   |true=>rw[V]at h;cases h
   |false=>
   rw[V]at h;simp only[yg]at h;split at h
   ·rename_i ag T hT;obtain⟨⟨ls,K,hc⟩,hn,_,U⟩:=H.ty _ hT;have W:=e6 hc;obtain⟨l,rfl⟩:=yw2.1 (W:ls.length=1);obtain⟨xs,β,ids,h,O⟩:=C7 Y hc U h;have N:leaf? P t=some l:=by
     have Z:=H.ag;rw[V]at Z;obtain⟨l2,h3,h4⟩:=gO Z K;rw[h3,(yd1 h4).1]
    refine⟨_,ids,h,?_⟩;rcases Y with ⟨b,g,rfl⟩|⟨b,g,o,n,rfl⟩
    ·simp only[KV.down,lend,N,ya];exact O
    ·simp only[KV.down,lend,N,ya];exact O
   ·cases h
  ·cases h
 cases v with
 |msw b g=>exact box (.inl ⟨_,_,rfl⟩) h
 |ms b g o n=>exact box (.inr ⟨_,_,_,_,rfl⟩) h
 |agg cs=>
  simp only[sK]at h;cases hm:sK.hasMsK cs with
  |true=>
   rw[hm]at h;simp only[yh]at h;split at h
   ·rename_i M J;have H:=cH.of (ht _ _ J);split at h
    ·rename_i T hT;obtain⟨⟨ls,K,hc⟩,hn,_,U⟩:=H.ty _ hT;obtain⟨ws,ids,h,O⟩:=Ay hc U h;refine⟨_,_,h,?_⟩;simp only[KV.down,lend,B3,hm,yh,K,ya,O,yl]
    ·cases h
   ·cases h
  |false=>
   rw[hm]at h;simp only[yg]at h;exact⟨_,_,h,by simp only[KV.down,lend,B3,hm,yg]⟩
 |_=>exact⟨_,_,h,P4 (by simp) (by simp) (by simp)⟩
theorem CP(ht:b9 P tab): ∀{ts:List TypeId} {vs:List KV} {k:List KV->List Nat->Option R},CW (aZ R) tab mem ts vs k=some r->∃ws ids,k ws ids=some r/\iT P (aD mem) ts (KV.downs vs)=some (KV.downs ws,ids)
 | [],[],k,h=>⟨[],[],h,rfl⟩
 |t::ts,v::vs,k,h=>by
  simp only[CW]at h;obtain⟨w,l,h,J⟩:=Si ht h;obtain⟨ws,ids,h,H⟩:=CP ht h;exact⟨_,_,h,by simp[KV.downs,iT,J,H]⟩
 | [],_::_,k,h=>by cases h
 |_::_,[],k,h=>by cases h
theorem Pz(ht:b9 P tab){keep:Bool}{ts:List TypeId}{vs:List KV}{k:List KV->List Nat->Option R}(h:TF (aZ R) tab keep mem ts vs k=some r): ∃ws ids,k ws ids=some r/\NQ P keep (aD mem) ts (KV.downs vs)=some (KV.downs ws,ids):=by
 cases keep with
 |true=>exact⟨vs,[],h,rfl⟩
 |false=>exact CP ht h
def I2(C:cC)(tbl:FuncId->List aG):Prop:= ∀{R:Type} {r:R} {g:FuncId} {args:List KV} {mem:aH} {k:KV->aH->Option R},WJ (aZ R) tbl g args mem k=some r->
 ∃v m,C g (KV.downs args) (aD mem)=some (v.down,aD m)/\k v m=some r
theorem RZ(ht:b9 P tab){C:cC}{N:FuncId->List aG}(hC:I2 C N){raw keep:Bool}{g:FuncId}{ts:List TypeId}{K args J:List KV}{k:bK->Option R}(h:TD (aZ R) tab N raw keep g ts K args J mem k=some r):
  ∃out,k out=some r/\BE P C raw keep g ts (KV.downs K) (KV.downs args) (KV.downs J) (aD mem)=some out.down:=by
 unfold TD at h;have W:=Pz ht h;clear h;obtain⟨O,lb,h,Z⟩:=W;simp only at h;rw[cJ]at h;obtain⟨U,h⟩:=h;obtain⟨v,sub,Y,h⟩:=hC h;rw[cJ]at h;obtain⟨H,h⟩:=h;unfold BE;have M:KV.downs K++KV.downs O++KV.downs J=KV.downs (K++O++J):=by simp[dD]
 simp only[Z,ya,M,cL,Fz,vW,B4,gU,Ba,Y];simp only[HW,Pc,e8,j9,vQ,FE,MF,qA,sB];generalize Av mem (nC mem (KV.refsAll (K++O++J)).length) (KV.refsAll (K++O++J)) []=ids at h U H⊢
 have hr:(bif raw then v.down else oV ids.length (aD sub) v.down)=(bif raw then v else AZ ids.length sub v).down:=by
  cases raw with
  |true=>rfl
  |false=>exact Ny _ _ _
 rw[hr];simp only[AG,Ak];cases V:iH ids.length (bif raw then v else AZ ids.length sub v).refs&&iH ids.length (kO (sub.take ids.length))with
 |true=>
  rw[V]at h;simp only[yh]at h;refine⟨_,h,?_⟩;rw[e9];refine⟨U,?_⟩;rw[e9];refine⟨H,?_⟩;simp only[yh];rfl
 |false=>
  rw[V]at h;simp only[yg]at h;refine⟨_,h,?_⟩;rw[e9];refine⟨U,?_⟩;rw[e9];refine⟨H,?_⟩;simp only[yg];rfl
end
end Go.Ab
