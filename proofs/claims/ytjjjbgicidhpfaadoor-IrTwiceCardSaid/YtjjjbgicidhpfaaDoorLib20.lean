import Derived.Test.YtjjjbgicidhpfaaDoorLib19
set_option linter.unusedVariables false
set_option linter.unusedSectionVars false
set_option linter.unusedSimpArgs false
namespace Go.Ab
variable [cF]
section
variable {P:Program} {R:Type} {r:R} {mem:aF} {tab:TypeId->Option TI}
mutual
theorem zD: ∀v:KV,v.down.refs=v.refs
 | .lit _=>rfl
 | .tsl _ _ _ _=>rfl
 | .el _ _ _ _ _=>rfl
 | .ptr _ _ _ _=>rfl
 | .ms _ _ _ _=>rfl
 | .msw _ _=>rfl
 | .fn f H J=>by simp only[KV.down,AV.refs,KV.refs,b9 H,b9 J]
 | .agg cs=>by simp only[KV.down,AV.refs,KV.refs,b9 cs]
 | .tup vs=>by simp only[KV.down,AV.refs,KV.refs,b9 vs]
 | .dead=>rfl
 | .gone=>rfl
 | .unkB=>rfl
theorem b9: ∀vs:List KV,AV.refsAll (KV.downs vs)=KV.refsAll vs
 | []=>rfl
 |v::vs=>by simp only[KV.downs,AV.refsAll,KV.refsAll,zD v,b9 vs]
end
mutual
theorem wO(f:kY): ∀v:KV,v.down.ren f=(v.ren f).down
 | .lit _=>rfl
 | .tsl _ _ _ _=>rfl
 | .el _ _ _ _ _=>rfl
 | .ptr b g i c=>by simp only[KV.down,AV.ren,KV.ren];cases f b g<;>rfl
 | .ms b g o n=>by simp only[KV.down,AV.ren,KV.ren];cases f b g<;>rfl
 | .msw b g=>by simp only[KV.down,AV.ren,KV.ren];cases f b g<;>rfl
 | .fn h H J=>by simp only[KV.down,AV.ren,KV.ren,fR f H,fR f J]
 | .agg cs=>by simp only[KV.down,AV.ren,KV.ren,fR f cs]
 | .tup vs=>by simp only[KV.down,AV.ren,KV.ren,fR f vs]
 | .dead=>rfl
 | .gone=>rfl
 | .unkB=>rfl
theorem fR(f:kY): ∀vs:List KV,AV.renAll f (KV.downs vs)=KV.downs (KV.renAll f vs)
 | []=>rfl
 |v::vs=>by simp only[KV.downs,AV.renAll,KV.renAll,wO f v,fR f vs]
end
mutual
theorem CS: ∀v:KV,v.down.lent=v.lent
 | .lit _=>rfl
 | .tsl _ _ _ _=>rfl
 | .el _ _ _ _ _=>rfl
 | .ptr _ _ _ _=>rfl
 | .ms _ _ _ _=>rfl
 | .msw _ _=>rfl
 | .fn f H J=>by simp only[KV.down,AV.lent,KV.lent,iO H,iO J]
 | .agg cs=>by simp only[KV.down,AV.lent,KV.lent,iO cs]
 | .tup vs=>by simp only[KV.down,AV.lent,KV.lent,iO vs]
 | .dead=>rfl
 | .gone=>rfl
 | .unkB=>rfl
theorem iO: ∀vs:List KV,AV.lentAny (KV.downs vs)=KV.lentAny vs
 | []=>rfl
 |v::vs=>by simp only[KV.downs,AV.lentAny,KV.lentAny,CS v,iO vs]
end
theorem At: ∀hs:c7,fN (bB hs)=zH hs
 | []=>rfl
 |(i,c,v)::hs=>by simp only[bB,fN,zH,zD,At hs]
theorem Cd(f:kY): ∀hs:c7,pQ f (bB hs)=bB (Bi f hs)
 | []=>rfl
 |(i,c,v)::hs=>by simp only[bB,pQ,Bi,wO,Cd f hs]
theorem z4: ∀hs:c7,mK (bB hs)=zS hs
 | []=>rfl
 |(i,c,v)::hs=>by simp only[bB,mK,zS,CS,z4 hs]
theorem Li(x:KRow):x.down.refs=x.refs:=by
 cases x with
 |os T xs hs=>exact At hs
 |cells e cs=>exact b9 cs
 |ts β ag T xs=>
  cases H:a6 ag T with
  |true=>obtain⟨rfl,kk,rfl⟩:=aO.1 H;rfl
  |false=>rw[KRow.down_sl H];rfl
theorem FH(f:kY)(x:KRow):x.down.ren f=(x.ren f).down:=by
 cases x with
 |os T xs hs=>simp only[KRow.down,aZ.ren,KRow.ren,Cd]
 |cells e cs=>simp only[KRow.down,aZ.ren,KRow.ren,fR]
 |ts β ag T xs=>
  cases H:a6 ag T with
  |true=>obtain⟨rfl,kk,rfl⟩:=aO.1 H;rfl
  |false=>simp only[KRow.ren];rw[KRow.down_sl H];rfl
theorem LX(mem:aF)(b:Nat):Dq (aB mem) b=Kr mem b:=by
 unfold Dq Kr;rw[bA,eW];cases mem[b]? with
 |none=>rfl
 |some x=>cases x with
  |none=>rfl
  |some x=>exact Li x.row
theorem sJ(mem:aF): ∀(n:Nat) (H seen:List Nat),gQ (aB mem) n H seen=yI mem n H seen
 |0,_,_=>rfl
 |n+1,[],_=>rfl
 |n+1,b::H,seen=>by
  simp only[gQ,yI,LX,sJ mem n]
theorem AH(mem:aF)(b:Nat):o8 (aB mem) b=wX mem b:=by
 unfold o8 wX;rw[bA,eW];cases mem[b]? with
 |none=>rfl
 |some x=>cases x<;>rfl
theorem JT(mem:aF)(b:Nat):lZ (aB mem) b=Gy mem b:=by
 unfold lZ Gy;rw[bA,eW];cases mem[b]? with
 |none=>rfl
 |some x=>cases x with
  |none=>rfl
  |some x=>exact fT x.row
theorem AF(m:Nat)(keep:Bool)(mem:aF)(ids:List Nat):fU m keep (aB mem) ids=oB m keep mem ids:=by
 funext b g;unfold fU oB;rw[AH];cases wX mem b with
 |none=>rfl
 |some h=>
  simp only[JT];cases w7 b ids 0<;>rfl
theorem zK(m:Nat)(keep:Bool)(f:kY)(mem:aF): ∀(j:Nat) (ids:List Nat),eH m keep f (aB mem) j ids=aB (qT m keep f mem j ids)
 |_,[]=>rfl
 |j,b::ids=>by
  have H:=zK m keep f mem (j+1) ids;simp only[eH,qT,H];rw[bA,eW];cases mem[b]? with
  |none=>rfl
  |some x=>cases x with
   |none=>rfl
   |some x=>simp only[yl];rw[show x.down.row=x.row.down from rfl,FH,fT];rfl
theorem Ct(mem:aF)(n:Nat):dL (aB mem) n=lA mem n:=by simp only[dL,lA,eG]
theorem r5: ∀mem:aF,vD (aB mem)=f8 mem
 | []=>rfl
 |none::m=>by
  have:=r5 m;simp only[aB,vD,yg2,f8]at this⊢
  rw[this];rfl
 |some x::m=>by
  have:=r5 m;simp only[aB,vD,yg2,f8]at this⊢
  rw[this];simp[dE.down,fT]
theorem sZ: ∀(old:List (Option Bool)) (mem:aF),pD old (aB mem)=FU old mem
 | [],_=>by simp[pD,FU]
 |some k::old,some x::m=>by
  have:=sZ old m
  show((bif k then x.row.down.isCells&&Nat.beq x.gen 0 else !x.row.down.isCells)&&pD old (aB m))=_
  rw[this,fT];rfl
 |none::old,none::m=>sZ old m
 |some k::old,none::m=>rfl
 |none::old,some x::m=>rfl
 |some k::old,[]=>rfl
 |none::old,[]=>rfl
theorem FK: ∀(hs:c7) (j:Nat),cS (bB hs) j=bB (cS hs j)
 | [],_=>rfl
 |h::r,0=>rfl
 |h::r,j+1=>by simp only[bB,cS,FK r j]
theorem yP(c:Nat): ∀hs:c7,k8 c (bB hs)=(m9 c hs).map λq=>(q.1,q.2.down)
 | []=>rfl
 |(i,H,v)::r=>by
  simp only[bB,k8,m9];cases Nat.beq c H with
  |true=>rfl
  |false=>simpa using yP c r
theorem zM{α:Type}(x:Option α):Lf x=x.isNone:=by cases x<;>rfl
theorem rY{α β:Type}(x:Option α)(f:α->β):(x.map f).isNone=x.isNone:=by cases x<;>rfl
theorem getD(hs:c7)(j:Nat):(bB hs)[j]?=(hs[j]?).map λh=>(h.1,h.2.1,h.2.2.down):=by
 induction hs generalizing j with
 |nil=>rfl
 |cons h r H=>
  cases j with
  |zero=>rfl
  |succ j=>simpa[bB]using H j
theorem JG{mem:aF}{b:Nat}:(aB mem)[b]?=(eO mem b).map λx=>x.map dE.down:=by rw[eW,bA]
theorem Jl(m:Nat)(refs:List Nat)(mem:aF)(v:KV):mB m refs (aB mem) v.down=Mz m refs mem v:=by
 have H: ∀(b g:Nat) (w:AV),(w= .msw b g\/∃o n,w= .ms b g o n)->
   mB m refs (aB mem) w=(Nat.ble m b&&Nat.beq (cP b refs) 1&&(match eO mem b with
  |some (some x)=>Nat.beq x.gen g&&!x.frz&&(match x.row with| .ts β ag T _=>!(Bu β ag T)|_=>false)
  |_=>false)):=by
  intro b g w N;have K:=JG (mem:=mem) (b:=b);rcases N with rfl|⟨o,n,rfl⟩
  ·simp only[mB,pI,K];cases eO mem b with
   |none=>rfl
   |some y=>cases y with
    |none=>rfl
    |some x=>
     simp only[yl,dE.down];cases x.row with
     |cells e cs=>rfl
     |os T xs hs=>rfl
     |ts β ag T xs=>
      cases J:a6 ag T with
      |true=>obtain⟨rfl,M,rfl⟩:=aO.1 J;rfl
      |false=>rw[KRow.down_sl J];simp only[nK J]
  ·simp only[mB,pI,K];cases eO mem b with
   |none=>rfl
   |some y=>cases y with
    |none=>rfl
    |some x=>
     simp only[yl,dE.down];cases x.row with
     |cells e cs=>rfl
     |os T xs hs=>rfl
     |ts β ag T xs=>
      cases J:a6 ag T with
      |true=>obtain⟨rfl,M,rfl⟩:=aO.1 J;rfl
      |false=>rw[KRow.down_sl J];simp only[nK J]
 cases v with
 |msw b g=>exact H b g (.msw b g) (.inl rfl)
 |ms b g o n=>exact H b g (.ms b g o n) (.inr ⟨o,n,rfl⟩)
 |_=>rfl
theorem yW(m:Nat)(refs:List Nat)(mem:aF)(all:c7): ∀(hs:c7) (j:Nat),k9 m refs (aB mem) (bB all) (bB hs) j=rZ m refs mem all hs j
 | [],_=>rfl
 |(i,c,v)::r,j=>by
  simp only[bB,k9,rZ,Jl,FK,yP,rY,zM,yW m refs mem all r]
theorem qM(m:Nat)(refs:List Nat)(mem:aF): ∀(l:aF) (b:Nat),i9 m refs (aB mem) (aB l) b=qY m refs mem l b
 | [],_=>rfl
 |none::r,b=>qM m refs mem r (b+1)
 |some x::r,b=>by
  have H:=qM m refs mem r (b+1);obtain⟨K,fz,row⟩:=x;cases row with
  |cells e cs=>exact H
  |ts β ag T xs=>
   cases J:a6 ag T with
   |true=>obtain⟨rfl,kk,rfl⟩:=aO.1 J;exact H
   |false=>
    show i9 m refs (aB mem) (some ⟨K,fz,(KRow.ts β ag T xs).down⟩::aB r) b=_;rw[KRow.down_sl J];exact H
  |os T xs hs=>
   show(match k9 m refs (aB mem) (bB hs) (bB hs) 0 with|some k=>some (b,k)|none=>i9 m refs (aB mem) (aB r) (b+1))=_
   rw[yW,H];rfl
theorem v5{cs:List KV}{i:Nat}{v:KV}:c6 cs i [v]=cs.set i v:=by simp[c6,d8]
theorem Hk{T:Ty}{x:den T}:(fB T=true/\cR (fB T) T x= .agg (aQ T x))\/(fB T=false/\∃p,aQ T x= [p]/\cR (fB T) T x=p/\BM p=true):=by
 cases T with
 |sl ag T=>exact .inr ⟨rfl,dS ag T x,rfl,rfl,x6 ag T x⟩
 |int k=>exact .inl ⟨rfl,kG (.inl rfl)⟩
 |bool=>exact .inl ⟨rfl,kG (.inl rfl)⟩
 |str=>exact .inl ⟨rfl,kG (.inl rfl)⟩
 |cons a b=>exact .inl ⟨rfl,kG (.inl rfl)⟩
theorem Hl{T:Ty}{x z:den T}{c:Nat}{q:PV}(hc:c<(aQ T x).length)(h:aQ T z=(aQ T x).set c q):jZ (cR (fB T) T x) c q=cR (fB T) T z:=by
 rcases Hk (T:=T) (x:=x)with ⟨K,J⟩|⟨K,p,J,O,W⟩
 ·rcases Hk (T:=T) (x:=z)with ⟨_,H⟩|⟨H,_⟩
  ·rw[J,H,h];rfl
  ·rw[K]at H;cases H
 ·rcases Hk (T:=T) (x:=z)with ⟨H,_⟩|⟨_,Y,V,U,h7⟩
  ·rw[K]at H;cases H
  ·rw[O,U];rw[J]at hc h;have M:c=0:=by simp at hc;exact hc
   subst M;rw[V]at h;have N:Y=q:=by simpa using h
   cases p<;>first|exact N.symm|cases W
theorem NF{T:Ty}{xs:List (den T)}{i:Nat}{z:den T}:(xs.map (cR (fB T) T)).set i (cR (fB T) T z)=(xs.set i z).map (cR (fB T) T):=by rw[List.map_set]
theorem oP(mem:aF)(b:Nat)(x:Option dE):aB (s6 x mem b)=(aB mem).set b (x.map dE.down):=by simp[aB,d8,List.map_set]
theorem JB{v:KV}{k:Nat->KRow->Option R}(h:Gv (aS R) mem v k=some r): ∃b row,k b row=some r/\∀β ag T K,row= .ts β ag T K->Bu β ag T=false->A7 (aB mem) v.down=some (b,dS ag T K):=by
 unfold Gv at h;split at h
 ·rename_i b g;obtain⟨x,M,h⟩:=cE h;cases hf:x.frz with
  |true=>rw[hf]at h;cases h
  |false=>
   rw[hf]at h;refine⟨b,x.row,h,?_⟩;intro β ag T K hr J;simp only[KV.down,A7,M,yb,show x.down.frz=x.frz from rfl,hf,yh,show x.down.row=x.row.down from rfl,hr];cases H:a6 ag T with
   |true=>obtain⟨rfl,N,rfl⟩:=aO.1 H;rfl
   |false=>
    rw[nK H]at J;subst J;rw[KRow.down_sl H,cB H]
 ·rename_i b g o n;simp only[real_guard]at h;rw[bZ]at h;obtain⟨U,h⟩:=h;obtain rfl:=nb.1 U;obtain⟨x,M,h⟩:=cE h;cases hf:x.frz with
  |true=>rw[hf]at h;cases h
  |false=>
   rw[hf]at h;simp only[yh]at h;split at h
   ·rename_i β ag T xs hr;rw[bZ]at h;refine⟨b,_,h.2,?_⟩;intro β' W T' K V J;cases V;simp only[KV.down,A7,M,yb,show x.down.frz=x.frz from rfl,hf,yh,show x.down.row=x.row.down from rfl,hr];have O:=h.1;clear h;cases H:a6 ag T with
    |true=>
     obtain⟨rfl,N,rfl⟩:=aO.1 H;show guardB (Nat.ble n xs.length) (some (b,PV.ints N (xs.take n)))=some (b,.ints N (xs.take n));rw[eK];exact⟨O,rfl⟩
    |false=>
     rw[nK H]at J;subst J;rw[KRow.down_sl H,cB H];simp only;rw[eK];exact⟨by rw[yk1];exact O,by rw[yl3]⟩
   ·cases h
 ·cases h
theorem QK{ag:Bool}{T:Ty}(xs J:List (den T)):RY (dS ag T xs) (dS ag T J)=true:=by
 cases H:a6 ag T with
 |true=>obtain⟨rfl,kk,rfl⟩:=aO.1 H;exact vO.2 rfl
 |false=>rw[cB H,cB H];exact nb.2 rfl
theorem Ik{b j:Nat}{k:aF->Option R}(h:CT (aS R) mem b j k=some r): ∃mem',k mem'=some r/\qO (aB mem) b j=some (aB mem'):=by
 unfold CT at h;split at h
 ·rename_i x hx;split at h
  ·rename_i T xs hs K;split at h
   ·rename_i hl O;obtain⟨b',row,h,V⟩:=JB h;split at h
    ·rename_i β Z T' Y;rw[bZ]at h;obtain⟨M,h⟩:=h;simp only[yc,yw]at M;obtain⟨⟨g1,g2⟩,g3⟩:=M;have V:=V β Z T' Y rfl g1;simp only[real_getN]at h;rw[FJ]at h;obtain⟨p,W,h⟩:=h;split at h
     ·rename_i β2 H T'' ys2 J;rw[bZ]at h;obtain⟨M,h⟩:=h;simp only[yc]at M;obtain rfl:=KO.1 M.1;obtain rfl:=Ty.beq_iff.1 M.2;rw[bA]at J;obtain⟨y,hy,U⟩:=(dH.of false T p).2 _ _ J;have N:y=dS H T'' ys2:=by
       rcases U with ⟨_,_,e,_⟩|⟨_,e,_⟩|⟨_,e,_⟩|⟨_,_,_,e,rfl⟩<;>cases e
       rfl
      have hlt:hl.2.1<(aQ T p).length:=(yd.1 hy).1;rw[v5]at h;obtain⟨z,_,_,h,hz⟩:=mS ((dH.of false T p).set (v:= .tsl false H T'' Y) (q:=dS H T'' Y) (.inr (.inr (.inr ⟨_,_,_,rfl,rfl⟩))) hl.2.1) h;refine⟨_,h,?_⟩;unfold qO;rw[n7 hx];obtain⟨gn,fz,row⟩:=x;simp only at K;subst K;rw[bA]at O;simp only[dE.down,KRow.down,getD,O,yl,yb];rw[yg1,W];simp only[yl,yb,cG,hy,V];rw[eK];refine⟨?_,?_⟩
      ·simp only[yc,yw];refine⟨⟨?_,g2⟩,?_⟩
       ·rw[N];exact QK _ _
       ·rw[FK,yP,rY,<-zM];exact g3
      ·rw[oP,oP,Hl hlt hz,NF,FK];rfl
     ·cases h
    ·cases h
   ·cases h
  ·cases h
 ·cases h
theorem iS: ∀mem:aF,cJ (aB mem)=jD mem
 | []=>rfl
 |none::m=>iS m
 |some x::m=>by
  have H:=iS m;show x.row.down.refs++cJ (aB m)=_;rw[H,Li];rfl
theorem Cf{m:Nat}{vs:List KV}: ∀{n:Nat} {mem:aF} {k:aF->Option R},B5 (aS R) m vs n mem k=some r->∃mem',k mem'=some r/\nL m (KV.downs vs) n (aB mem)=some (aB mem')
 |0,mem,k,h=>⟨mem,h,rfl⟩
 |n+1,mem,k,h=>by
  simp only[B5]at h;simp only[nL,b9,iS,qM];split at h
  ·rename_i hf;rw[hf];exact⟨mem,h,rfl⟩
  ·rename_i q hf;rw[hf];obtain⟨J,h,K⟩:=Ik h;obtain⟨H,h,hs⟩:=Cf h;exact⟨H,h,by simp only[K,yb,hs]⟩
theorem Ol(mem:aF)(b:Nat):Pr (aB mem) b=Kx mem b:=by
 unfold Pr Kx;rw[JG];cases eO mem b with
 |none=>rfl
 |some y=>cases y<;>rfl
theorem Hq(m:Nat)(vs:List KV): ∀(n:Nat) (mem:aF),sP m (KV.downs vs) n (aB mem)=aB (FF m vs n mem)
 |0,_=>rfl
 |b+1,mem=>by
  simp only[sP,FF,Ol,b9,iS];rw[<-Hq m vs b];congr 1;cases(Nat.ble m b&&Kx mem b&&Nat.beq (cP b (KV.refsAll vs++jD mem)) 0)with
  |false=>rfl
  |true=>simp only[yg,oP];rfl
theorem Az{m:Nat}{vs:List KV}{mem:aF}{k:aF->Option R}(h:Ok (aS R) m vs mem k=some r): ∃mem',k mem'=some r/\D3 m (KV.downs vs) (aB mem)=some (aB mem'):=by
 obtain⟨mem',H,J⟩:=Cf h;refine⟨mem',H,?_⟩;unfold D3;rw[eG,Hq];exact J
theorem AC{keep:Bool}{old:List (Option Bool)}{vs:List KV}{k:List KV->aF->Option R}(h:Cp (aS R) keep old vs mem k=some r): ∃H mem',k H mem'=some r/\wC keep old (KV.downs vs) (aB mem)=some (KV.downs H,aB mem'):=by
 unfold Cp at h;obtain⟨J,h,hs⟩:=Az h;simp only at h;rw[bZ]at h;refine⟨_,_,h.2,?_⟩;unfold wC;simp only[hs,yb,b9,Ct,sJ,sZ,AF,fR,zK];rw[eK];exact⟨h.1,rfl⟩
theorem HT(m:Nat)(mem:aF)(v:KV):v.down.frz m (aB mem)=(v.frz m mem).down:=by
 cases v with
 |msw b g=>
  simp only[KV.down,AV.frz,KV.frz];cases Nat.ble m b with
  |false=>rfl
  |true=>
   simp only[yg];unfold box?;rw[bA,eW];cases mem[b]? with
   |none=>rfl
   |some x=>cases x with
    |none=>rfl
    |some x=>
     obtain⟨J,fz,row⟩:=x;simp only[yl,dE.down,dM];cases hg:Nat.beq J g with
     |false=>rfl
     |true=>
      cases row with
      |os T xs hs=>rfl
      |cells e cs=>rfl
      |ts β ag T xs=>
       cases H:a6 ag T with
       |true=>obtain⟨rfl,kk,rfl⟩:=aO.1 H;rfl
       |false=>
        simp only[iX,yc3,yi1,yg];rw[KRow.down_sl H,nK H,yJ H]
 |tsl β ag T xs=>rfl
 |_=>rfl
theorem yK(m:Nat)(mem:aF): ∀vs:List KV,AV.frzAll m (aB mem) (KV.downs vs)=KV.downs (KV.frzAll m mem vs)
 | []=>rfl
 |v::vs=>by simp only[KV.downs,AV.frzAll,KV.frzAll,HT,yK m mem vs]
theorem K1(m:Nat)(mem:aF)(v:KV):mX m (aB mem) v.down=(zE m mem v).down:=by
 cases v with
 |tup vs=>simp only[KV.down,mX,zE,yK]
 |agg vs=>simp only[KV.down,mX,zE,yK]
 |msw b g=>exact HT m mem (.msw b g)
 |_=>rfl
theorem sL: ∀mem:aF,iL (aB mem)=v9 mem
 | []=>rfl
 |none::m=>sL m
 |some x::m=>by
  have J:=sL m
  show((match x.row.down with| .cells _ cs=>AV.lentAny cs| .pvs β _ _=>β| .ints _ _=>false| .own _ _ hs=>mK hs)||iL (aB m))=_
  rw[J];simp only[v9];congr 1;cases x.row with
  |os T xs hs=>exact z4 hs
  |cells e cs=>exact iO cs
  |ts β ag T xs=>
   cases H:a6 ag T with
   |true=>obtain⟨rfl,kk,rfl⟩:=aO.1 H;rfl
   |false=>rw[KRow.down_sl H];simp only[nK H]
theorem JD(mem sub:aF)(ids:List Nat):cX (aB mem) (aB sub) ids=oV mem sub ids:=by
 funext b g;unfold cX oV;rw[bA];cases ids[b]? with
 |none=>simp only[eG]
 |some a=>
  simp only;rw[AH,bA,eW];cases sub[b]? with
  |none=>rfl
  |some x=>cases x with
   |none=>rfl
   |some x=>
    simp only[yl];cases wX mem a with
    |none=>rfl
    |some h=>rfl
theorem oC(f:kY)(mem:aF): ∀(ids:List Nat) (sub:aF),bI f (aB mem) ids (aB sub)=(jN f mem ids sub).map λq=>(q.1,q.2.down)
 |a::ids,some x::sub=>by
  have H:=oC f mem ids sub
  show(a,_)::bI f (aB mem) ids (aB sub)=_
  rw[H];simp only[jN,yg2];congr 2;simp only[dE.down,FH,AH];cases wX mem a<;>rfl
 |a::ids,none::sub=>oC f mem ids sub
 | [],[]=>rfl
 | [],_::_=>by simp[bI,jN,aB]
 |a::ids,[]=>rfl
theorem p9(f:kY): ∀sub:aF,e7 f (aB sub)=aB (yX f sub)
 | []=>rfl
 |none::m=>by
  have H:=p9 f m;show none::e7 f (aB m)=_;rw[H];rfl
 |some x::m=>by
  have H:=p9 f m;show some _::e7 f (aB m)=_;rw[H];show some ({gen:=0,frz:=x.frz,row:=x.row.down.ren f}:bK)::_=_;rw[FH];rfl
theorem GD(mem:aF)(n:Nat):(aB mem).take n=aB (mem.take n):=by simp[aB,yl3]
theorem Og(mem:aF)(n:Nat):(aB mem).drop n=aB (mem.drop n):=by simp[aB,yh4]
theorem AO: ∀cs:List KV,Iw (KV.downs cs)=rA.hasMsK cs
 | []=>rfl
 |v::cs=>by
  have ih:=AO cs;cases v<;>simp_all[KV.downs,KV.down,Iw,rA.hasMsK,AV.dead,AV.goneV,AV.unkB]
theorem BY{ag:Bool}{T:Ty}{l:LK}{v:KV}{k:List (den T)->Bool->List Nat->Option R}(V:(∃b g,v= .msw b g)\/∃b g o n,v= .ms b g o n)(hc:a7 P (.sl ag T) [l]=true)(U:(Ty.sl ag T).depth≤6)
  (h:zW (aS R) mem (.sl ag T) [v] k=some r): ∃xs β ids,k xs β ids=some r/\iG P (aB mem) l v.down=some ((KV.tsl true ag T xs).down,ids):=by
 obtain⟨x,β,ids,h,H⟩:=nU hc U h;refine⟨x,β,ids,h,?_⟩;simp only[KV.downs,cD,FJ]at H;obtain⟨a,K,b,O,H⟩:=H;obtain rfl:=ya O;simp only[Option.some.injEq,Prod.mk.injEq,Bool.or_false,yo1]at H;obtain⟨h1,N,M⟩:=H;have J:a.2.1=dS ag T x:=(yb1 N).1;rcases V with ⟨b,g,rfl⟩|⟨b,g,o,n,rfl⟩
 ·simp only[KV.down,iG]at K⊢
  rw[K,yl,J,M]
 ·simp only[KV.down,iG]at K⊢
  rw[K,yl,J,M]
theorem Nn{t:TypeId}{v:KV}(H: ∀b g,v≠ .msw b g)(K: ∀b g o n,v≠ .ms b g o n)(J: ∀cs,v≠ .agg cs):lend P (aB mem) t v.down=some (v.down,[]):=by
 cases v with
 |ms b g o n=>exact absurd rfl (K b g o n)
 |msw b g=>exact absurd rfl (H b g)
 |agg cs=>exact absurd rfl (J cs)
 |_=>rfl
theorem HF{l:LK}{v:KV}(H: ∀b g,v≠ .msw b g)(J: ∀b g o n,v≠ .ms b g o n):iG P (aB mem) l v.down=some (v.down,[]):=by
 cases v with
 |ms b g o n=>exact absurd rfl (J b g o n)
 |msw b g=>exact absurd rfl (H b g)
 |_=>rfl
theorem wM: ∀{T:Ty} {ls:List LK} {vs:List KV} {k:List KV->List Nat->Option R},a7 P T ls=true->T.depth≤6->rA.lendCellsK (aS R) mem (c8 T) vs k=some r->
  ∃ws ids,k ws ids=some r/\b6 P (aB mem) ls (KV.downs vs)=some (KV.downs ws,ids)
 | .cons a b,ls,vs,k,hc,H,h=>by
  simp only[a7]at hc;split at hc
  ·rename_i l ls;simp only[yc]at hc;obtain⟨⟨K,W⟩,V⟩:=hc;have Y:a.depth≤6:=yq2 (Nat.le_max_left _ _) (show max a.depth b.depth≤6 from H);have Z:b.depth≤6:=yq2 (Nat.le_max_right _ _) (show max a.depth b.depth≤6 from H);simp only[c8,gF (nb.1 K),List.singleton_append]at h;exact one W Y (λh=>wM V Z h) h
  ·cases hc
 | .int kk,ls,vs,k,hc,H,h=>lendOne rfl hc H h
 | .bool,ls,vs,k,hc,H,h=>lendOne rfl hc H h
 | .str,ls,vs,k,hc,H,h=>lendOne rfl hc H h
 | .sl ag T,ls,vs,k,hc,H,h=>lendOne rfl hc H h
 where
 one {T:Ty} {l:LK} {J:List Ty} {ls:List LK} {vs:List KV} {k:List KV->List Nat->Option R} (hc:a7 P T [l]=true) (H:T.depth≤6)
   (M: ∀{vs:List KV} {k:List KV->List Nat->Option R},rA.lendCellsK (aS R) mem J vs k=some r->∃ws ids,k ws ids=some r/\b6 P (aB mem) ls (KV.downs vs)=some (KV.downs ws,ids))
   (h:rA.lendCellsK (aS R) mem (T::J) vs k=some r): ∃ws ids,k ws ids=some r/\b6 P (aB mem) (l::ls) (KV.downs vs)=some (KV.downs ws,ids):=by
  cases vs with
  |nil=>cases h
  |cons v vs=>
   have plain:(∀b g,v≠ .msw b g)->(∀b g o n,v≠ .ms b g o n)->(rA.lendCellsK (aS R) mem J vs λws U=>k (v::ws) U)=some r->∃ws ids,k ws ids=some r/\b6 P (aB mem) (l::ls) (KV.downs (v::vs))=some (KV.downs ws,ids):=by
    intro K h2 h;obtain⟨ws,N,h,hr⟩:=M h;exact⟨_,_,h,by simp[KV.downs,b6,HF K h2,hr]⟩
   cases v with
   |msw b g=>
    cases T with
    |sl ag T=>exact boxed (.inl ⟨_,_,rfl⟩) hc H M h
    |_=>cases h
   |ms b g o n=>
    cases T with
    |sl ag T=>exact boxed (.inr ⟨_,_,_,_,rfl⟩) hc H M h
    |_=>cases h
   |_=>exact plain (by simp) (by simp) h
 boxed {ag:Bool} {T:Ty} {l:LK} {J:List Ty} {ls:List LK} {v:KV} {vs:List KV} {k:List KV->List Nat->Option R} (hv:(∃b g,v= .msw b g)\/(∃b g o n,v= .ms b g o n)) (hc:a7 P (.sl ag T) [l]=true) (H:(Ty.sl ag T).depth≤6)
   (M: ∀{vs:List KV} {k:List KV->List Nat->Option R},rA.lendCellsK (aS R) mem J vs k=some r->∃ws ids,k ws ids=some r/\b6 P (aB mem) ls (KV.downs vs)=some (KV.downs ws,ids))
   (h:(zW (aS R) mem (.sl ag T) [v] λxs _ l=>rA.lendCellsK (aS R) mem J vs λws U=>k (.tsl true ag T xs::ws) (l++U))=some r):
   ∃ws ids,k ws ids=some r/\b6 P (aB mem) (l::ls) (KV.downs (v::vs))=some (KV.downs ws,ids):=by
  obtain⟨xs,β,ids,h,O⟩:=BY hv hc H h;obtain⟨ws,N,h,hr⟩:=M h;exact⟨_,_,h,by simp[KV.downs,b6,O,hr]⟩
 lendOne {T:Ty} {ls:List LK} {vs:List KV} {k:List KV->List Nat->Option R} (K:T.size=1) (hc:a7 P T ls=true) (H:T.depth≤6) (h:rA.lendCellsK (aS R) mem (c8 T) vs k=some r):
   ∃ws ids,k ws ids=some r/\b6 P (aB mem) ls (KV.downs vs)=some (KV.downs ws,ids):=by
  have O:=eF hc;rw[K]at O;obtain⟨l,rfl⟩:=yu2.1 O;rw[gF K]at h
  exact one hc H (fun{vs k} h=>by
   cases vs with
   |nil=>exact⟨[],[],h,rfl⟩
   |cons v vs=>cases h) h
theorem PG(ht:bT P tab){t:TypeId}{v:KV}{k:KV->List Nat->Option R}(h:rA (aS R) tab mem t v k=some r): ∃w ids,k w ids=some r/\lend P (aB mem) t v.down=some (w.down,ids):=by
 have box:(∃b g,v= .msw b g)\/(∃b g o n,v= .ms b g o n)->(match tab t with
   |some M=>bif M.ag then none else(match M.ty with
    |some (.sl ag T)=>zW (aS R) mem (.sl ag T) [v] λxs _ l=>k (.tsl true ag T xs) l
    |_=>none)
   |none=>none)=some r->∃w ids,k w ids=some r/\lend P (aB mem) t v.down=some (w.down,ids):=by
  intro Z h;split at h
  ·rename_i M K;have H:=b5.of (ht _ _ K);cases U:M.ag with
   |true=>rw[U]at h;cases h
   |false=>
   rw[U]at h;simp only[yh]at h;split at h
   ·rename_i ag T hT;obtain⟨⟨ls,J,hc⟩,hn,_,W⟩:=H.ty _ hT;have V:=eF hc;obtain⟨l,rfl⟩:=yu2.1 (V:ls.length=1);obtain⟨xs,β,ids,h,O⟩:=BY Z hc W h;have N:leaf? P t=some l:=by
     have Y:=H.ag;rw[U]at Y;obtain⟨l2,h3,h4⟩:=fL Y J;rw[h3,(yb1 h4).1]
    refine⟨_,ids,h,?_⟩;rcases Z with ⟨b,g,rfl⟩|⟨b,g,o,n,rfl⟩
    ·simp only[KV.down,lend,N,yb];exact O
    ·simp only[KV.down,lend,N,yb];exact O
   ·cases h
  ·cases h
 cases v with
 |msw b g=>exact box (.inl ⟨_,_,rfl⟩) h
 |ms b g o n=>exact box (.inr ⟨_,_,_,_,rfl⟩) h
 |agg cs=>
  simp only[rA]at h;cases hm:rA.hasMsK cs with
  |true=>
   rw[hm]at h;simp only[yg]at h;split at h
   ·rename_i M K;have H:=b5.of (ht _ _ K);split at h
    ·rename_i T hT;obtain⟨⟨ls,J,hc⟩,hn,_,W⟩:=H.ty _ hT;obtain⟨ws,ids,h,O⟩:=wM hc W h;refine⟨_,_,h,?_⟩;simp only[KV.down,lend,AO,hm,yg,J,yb,O,yl]
    ·cases h
   ·cases h
  |false=>
   rw[hm]at h;simp only[yh]at h;exact⟨_,_,h,by simp only[KV.down,lend,AO,hm,yh]⟩
 |_=>exact⟨_,_,h,Nn (by simp) (by simp) (by simp)⟩
theorem B0(ht:bT P tab): ∀{ts:List TypeId} {vs:List KV} {k:List KV->List Nat->Option R},Bh (aS R) tab mem ts vs k=some r->∃ws ids,k ws ids=some r/\gN P (aB mem) ts (KV.downs vs)=some (KV.downs ws,ids)
 | [],[],k,h=>⟨[],[],h,rfl⟩
 |t::ts,v::vs,k,h=>by
  simp only[Bh]at h;obtain⟨w,l,h,J⟩:=PG ht h;obtain⟨ws,ids,h,H⟩:=B0 ht h;exact⟨_,_,h,by simp[KV.downs,gN,J,H]⟩
 | [],_::_,k,h=>by cases h
 |_::_,[],k,h=>by cases h
theorem NQ(ht:bT P tab){keep:Bool}{ts:List TypeId}{vs:List KV}{k:List KV->List Nat->Option R}(h:RQ (aS R) tab keep mem ts vs k=some r): ∃ws ids,k ws ids=some r/\LA P keep (aB mem) ts (KV.downs vs)=some (KV.downs ws,ids):=by
 cases keep with
 |true=>exact⟨vs,[],h,rfl⟩
 |false=>exact B0 ht h
def Gs(C:bX)(tbl:FuncId->List aE):Prop:= ∀{R:Type} {r:R} {g:FuncId} {args:List KV} {mem:aF} {k:KV->aF->Option R},UQ (aS R) tbl g args mem k=some r->
 ∃v m,C g (KV.downs args) (aB mem)=some (v.down,aB m)/\k v m=some r
theorem QM(ht:bT P tab){C:bX}{N:FuncId->List aE}(hC:Gs C N){raw keep:Bool}{g:FuncId}{ts:List TypeId}{J args K:List KV}{k:bC->Option R}(h:RC (aS R) tab N raw keep g ts J args K mem k=some r):
  ∃out,k out=some r/\Aq P C raw keep g ts (KV.downs J) (KV.downs args) (KV.downs K) (aB mem)=some out.down:=by
 unfold RC at h;have W:=NQ ht h;clear h;obtain⟨O,lb,h,Z⟩:=W;simp only at h;rw[bZ]at h;obtain⟨U,h⟩:=h;obtain⟨v,sub,Y,h⟩:=hC h;rw[bZ]at h;obtain⟨H,h⟩:=h;unfold Aq;have M:KV.downs J++KV.downs O++KV.downs K=KV.downs (J++O++K):=by simp[cQ]
 simp only[Z,yb,M,b9,Ct,sJ,AF,fR,zK,Y];simp only[GD,Og,eG,iS,sL,CS,JD,oC,p9];generalize yI mem (lA mem (KV.refsAll (J++O++K)).length) (KV.refsAll (J++O++K)) []=ids at h U H⊢
 have hr:(bif raw then v.down else mX ids.length (aB sub) v.down)=(bif raw then v else zE ids.length sub v).down:=by
  cases raw with
  |true=>rfl
  |false=>exact K1 _ _ _
 rw[hr];simp only[zD,wO];cases V:gB ids.length (bif raw then v else zE ids.length sub v).refs&&gB ids.length (jD (sub.take ids.length))with
 |true=>
  rw[V]at h;simp only[yg]at h;refine⟨_,h,?_⟩;rw[eK];refine⟨U,?_⟩;rw[eK];refine⟨H,?_⟩;simp only[yg];rfl
 |false=>
  rw[V]at h;simp only[yh]at h;refine⟨_,h,?_⟩;rw[eK];refine⟨U,?_⟩;rw[eK];refine⟨H,?_⟩;simp only[yh];rfl
end
end Go.Ab
