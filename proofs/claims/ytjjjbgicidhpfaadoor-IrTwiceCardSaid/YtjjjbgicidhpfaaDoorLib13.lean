import Derived.Test.YtjjjbgicidhpfaaDoorLib12
set_option linter.unusedVariables false
set_option linter.unusedSectionVars false
set_option linter.unusedSimpArgs false
namespace Go.Ab
variable [cF]
section
variable {P:Program} {R:Type} {r:R} {mem:aF}
theorem JP{α β γ:Type}{f:γ->α->Option (Bool×β×List Nat)}{l:γ}{v:α}{a:Bool×β×List Nat}(h:f l v=some a):cD f [l] [v]=some (a.1,[a.2.1],a.2.2):=by
 simp[cD,h]
theorem Mu{α β γ:Type}{f:γ->α->Option (Bool×β×List Nat)}{l:γ}{ls:List γ}{v:α}{vs:List α}{β1 β2:Bool}{p q:List β}{i j:List Nat}
  (H:cD f [l] [v]=some (β1,p,i)) (K:cD f ls vs=some (β2,q,j)):cD f (l::ls) (v::vs)=some (β1||β2,p++q,i++j):=by
 simp only[cD,FJ]at H;obtain⟨a,M,b,J,H⟩:=H;obtain rfl:=ya J;simp only[Option.some.injEq,Prod.mk.injEq,Bool.or_false,yo1]at H;obtain⟨rfl,rfl,rfl⟩:=H;simp[cD,M,K]
theorem rB{t:TypeId}{ag:Bool}{T:Ty}(h:isAgg? P t=some ag)(hs:ag=false->T.size=1)(x:den T):wQ P t (aQ T x)=some (cR ag T x):=by
 unfold wQ;rw[h];cases ag with
 |true=>rfl
 |false=>
  have H:=bV (T:=T) (x:=x);rw[hs rfl]at H;obtain⟨c,hc⟩:=yu2.1 H;rw[hc,cR,hc];rfl
theorem nK{β ag:Bool}{T:Ty}(h:iQ ag T=false):Bu β ag T=β:=by
 cases T<;>cases ag<;>first|rfl|cases h
theorem AJ{α β:Type}(f:α->β)(e:Nat): ∀(n:Nat) (cs:List α),chunks e n (cs.map f)=(chunks e n cs).map (List.map f)
 |0,_=>rfl
 |n+1,cs=>by simp only[chunks,yg2,<-yh4,<-yl3,AJ f e n]
theorem Ak{a:Ty}(h:a.size=1):(∃k,a= .int k)\/a= .bool\/a= .str\/∃ag T,a= .sl ag T:=by
 cases a with
 |int k=>exact .inl ⟨k,rfl⟩
 |bool=>exact .inr (.inl rfl)
 |str=>exact .inr (.inr (.inl rfl))
 |sl ag T=>exact .inr (.inr (.inr ⟨ag,T,rfl⟩))
 |cons a b=>have h1:=Ty.size_pos (T:=a);have h2:=Ty.size_pos (T:=b);have:a.size+b.size=1:=h;omega
theorem Ep{ag:Bool}{T:Ty}{f:List KV->(den T->Bool->List Nat->Option R)->Option R}{g:List AV->Option (Bool×PV×List Nat)}
  (hf: ∀(c:List KV) (K:den T->Bool->List Nat->Option R),f c K=some r->∃x β l,K x β l=some r/\g (KV.downs c)=some (β,cR ag T x,l)):
  ∀{cs:List (List KV)} {K:List (den T)->Bool->List Nat->Option R},fE.denAll ag T f cs K=some r->
   ∃xs β l,K xs β l=some r/\gO g (cs.map (List.map KV.down))=some (β,xs.map (cR ag T),l)
 | [],K,h=>⟨[],false,[],h,rfl⟩
 |c::cs,K,h=>by
  simp only[fE.denAll]at h;obtain⟨x,β1,N,h,J⟩:=hf _ _ h;obtain⟨xs,β2,M,h,H⟩:=Ep hf h;rw[cQ]at J;exact⟨x::xs,β1||β2,N++M,h,by simp[gO,J,H]⟩
theorem Gp{k:IntKind}: ∀{cs:List KV} {K:List Int->Bool->List Nat->Option R},fE.denAll false (.int k) (fE (aS R) mem (.int k)) (chunks 1 cs.length cs) K=some r->
   ∃xs:List Int,K xs false []=some r/\fM k (KV.downs cs)=some xs
 | [],K,h=>⟨[],h,rfl⟩
 |c::cs,K,h=>by
  simp only[yz,chunks,ya4,yi4,List.drop_succ_cons,yp2,fE.denAll,fE]at h;split at h
  ·rename_i k' x hc;rw[bZ]at h;obtain⟨J,h⟩:=h;obtain⟨xs,h,H⟩:=Gp h;simp only[List.cons.injEq,and_true]at hc;subst hc;exact⟨x::xs,h,by simp[KV.downs,KV.down,fM,J,H]⟩
  ·cases h
theorem As(b:Nat){ag:Bool}{T:Ty}{n:Nat}{l:LK}(H:a7 P (.sl ag T) [l]=true)
  (ih: ∀{ls:List LK} {cs:List KV} {K:den T->Bool->List Nat->Option R},a7 P T ls=true->fE (aS R) mem T cs K=some r->∃x β l,K x β l=some r/\cD (bD P (aB mem) n) ls (KV.downs cs)=some (β,aQ T x,l))
  {row:KRow} {K:List (den T)->Bool->List Nat->Option R} (h:fE.denRow ag T (fE (aS R) mem T) b row K=some r):
  ∃xs β is,K xs β is=some r/\(match l with
   | .ints k=>bD.treeInts k b row.view
   | .sl t e=>bD.treeSl P (bD P (aB mem) n) t e b row.view
   |_=>none)=some (β,dS ag T xs,is):=by
 simp only[a7]at H;split at H
 ·rename_i k hk;obtain rfl:=(yb1 hk).1;cases ag with
  |true=>simp at H
  |false=>
   cases T with
   |int k'=>
    simp only at H;obtain rfl:=vO.1 H;cases row with
    |os=>cases h
    |ts β ag' T' xs=>
     simp only[fE.denRow]at h;rw[bZ]at h;obtain⟨W,h⟩:=h;obtain rfl:=KO.1 W;split at h
     ·rename_i ys hy;obtain⟨rfl,rfl⟩:=eA hy;exact⟨xs,_,_,h,by show bD.treeInts k b (.ints k xs)=some (false,.ints k xs,[b]);simp only[bD.treeInts,eK,vO,true_and]⟩
     ·cases h
    |cells e cs=>
     simp only[fE.denRow]at h;rw[bZ]at h;obtain⟨V,h⟩:=h;obtain rfl:=nb.1 V;have hc:aR (Ty.size (.int k)) cs.length=cs.length:=rfl;rw[hc]at h;obtain⟨xs,h,Z⟩:=Gp h;exact⟨xs,_,_,h,by simp[KRow.view,bD.treeInts,guardB,Ty.size,Z,Qs]⟩
   |_=>simp at H
 ·rename_i t e hk;obtain rfl:=(yb1 hk).1;simp only[yc,yw]at H;obtain⟨⟨⟨⟨V,J⟩,N⟩,U⟩,M⟩:=H;obtain rfl:=nb.1 V;have Y:isAgg? P t=some ag:=by
   split at N
   ·rename_i a W;rw[W,KO.1 N]
   ·cases N
  have O:ag=false->T.size=1:=λe=>by rw[e]at U;exact nb.1 (by simpa using U)
  split at M
  ·rename_i ls' hl';cases row with
   |os=>cases h
   |ts β ag' T' xs=>
    simp only[fE.denRow]at h;rw[bZ]at h;obtain⟨W,h⟩:=h;obtain rfl:=KO.1 W;split at h
    ·rename_i ys hy;obtain⟨rfl,rfl⟩:=eA hy;refine⟨xs,_,_,h,?_⟩;rw[KRow.view_sl J,nK J,cB J];simp[bD.treeSl,guardB]
    ·cases h
   |cells e cs=>
    simp only[fE.denRow]at h;rw[bZ]at h;obtain⟨V,h⟩:=h;obtain rfl:=nb.1 V
    obtain⟨xs,β,is,h,Z⟩:=Ep (ag:=ag) (g:=λvs=>(cD (bD P (aB mem) n) ls' vs).bind λq=>(wQ P t q.2.1).map λp=>(q.1,p,q.2.2)) (λc K hc=>by
     obtain⟨x,β,l,hK,hz⟩:=ih M hc
     exact⟨x,β,l,hK,by simp[hz,rB Y O]⟩) h
    refine⟨xs,β,_,h,?_⟩;rw[<-AJ,<-cQ]at Z;rw[cB J];simp only[KRow.view,bD.treeSl,eK,hl',yb];rw[aJ,Z];simp[guardB,Ty.size_pos,nl.2 Ty.size_pos]
  ·cases M
 ·cases H
theorem lL: ∀{T:Ty} {ls:List LK} {cs:List KV} {n:Nat} {K:den T->Bool->List Nat->Option R},a7 P T ls=true->T.depth≤n->fE (aS R) mem T cs K=some r->
  ∃x β l,K x β l=some r/\cD (bD P (aB mem) n) ls (KV.downs cs)=some (β,aQ T x,l)
 | .int k,ls,cs,n,K,H,hn,h=>by
  obtain⟨n,rfl⟩: ∃m,n=m+1:=⟨n-1,by have:1≤n:=hn;omega⟩
  simp only[a7]at H;split at H
  ·rename_i W;obtain rfl:=vO.1 H;simp only[fE]at h;split at h
   ·rename_i W x;rw[bZ]at h;exact⟨x,false,[],h.2,JP (β:=PV) (f:=bD P (aB mem) (n+1)) (a:=(false,PV.lit (.int k x),[])) (by simp[bD,KV.down,guardB,h.1,(vO.1 h.1).symm,vO.2])⟩
   ·cases h
  ·cases H
 | .bool,ls,cs,n,K,H,hn,h=>by
  obtain⟨n,rfl⟩: ∃m,n=m+1:=⟨n-1,by have:1≤n:=hn;omega⟩
  simp only[a7]at H;split at H
  ·simp only[fE]at h;split at h
   ·rename_i x;exact⟨x,false,[],h,JP (β:=PV) (f:=bD P (aB mem) (n+1)) (a:=(false,PV.lit (.bool x),[])) (by simp[bD,KV.down])⟩
   ·cases h
  ·cases H
 | .str,ls,cs,n,K,H,hn,h=>by
  obtain⟨n,rfl⟩: ∃m,n=m+1:=⟨n-1,by have:1≤n:=hn;omega⟩
  simp only[a7]at H;split at H
  ·simp only[fE]at h;split at h
   ·rename_i x;exact⟨x,false,[],h,JP (β:=PV) (f:=bD P (aB mem) (n+1)) (a:=(false,PV.lit (.string x),[])) (by simp[bD,KV.down])⟩
   ·cases h
  ·cases H
 | .sl ag T,ls,cs,n,K,H,hn,h=>by
  obtain⟨n,rfl⟩: ∃m,n=m+1:=⟨n-1,by have:T.depth+1≤n:=hn;omega⟩
  have O:T.depth≤n:=by have:T.depth+1≤n+1:=hn;omega
  have V: ∃l,ls= [l]:=by
   simp only[a7]at H;split at H
   ·exact⟨_,rfl⟩
   ·exact⟨_,rfl⟩
   ·cases H
  obtain⟨l,rfl⟩:=V;have ih: ∀{ls:List LK} {cs:List KV} {K:den T->Bool->List Nat->Option R},a7 P T ls=true->fE (aS R) mem T cs K=some r->∃x β l,K x β l=some r/\cD (bD P (aB mem) n) ls (KV.downs cs)=some (β,aQ T x,l):=
   λH h=>lL H O h
  simp only[fE]at h;split at h
  ·rename_i β ag' T' xs;rw[bZ]at h;obtain⟨ha,h⟩:=h;obtain rfl:=KO.1 ha;split at h
   ·rename_i ys N;obtain⟨rfl,rfl⟩:=eA N;refine⟨xs,β,[],h,JP (f:=bD P (aB mem) (n+1)) (a:=(β,dS ag T' xs,[])) ?_⟩;simp only[a7]at H;split at H
    ·rename_i k M;obtain rfl:=(yb1 M).1;cases ag with
     |true=>simp at H
     |false=>
      cases T' with
      |int W=>
       simp only at H;obtain rfl:=vO.1 H;show bD P (aB mem) (n+1) (.ints k) (.imm β (.ints k xs))=some (β,.ints k xs,[]);simp[bD,guardB,vO.2]
      |_=>simp at H
    ·rename_i t e M;obtain rfl:=(yb1 M).1;simp only[yc,yw]at H;obtain rfl:=nb.1 H.1.1.1.1;simp[bD,KV.down,cB H.1.1.1.2,guardB]
    ·cases H
   ·cases h
  ·refine⟨[],false,[],h,JP (f:=bD P (aB mem) (n+1)) (a:=(false,dS ag T [],[])) ?_⟩;simp only[a7]at H;split at H
   ·rename_i k M;obtain rfl:=(yb1 M).1;cases ag with
    |true=>simp at H
    |false=>
     cases T with
     |int W=>simp only at H;obtain rfl:=vO.1 H;simp[bD,KV.down];rfl
     |_=>simp at H
   ·rename_i t e M;obtain rfl:=(yb1 M).1;simp only[yc,yw]at H;obtain rfl:=nb.1 H.1.1.1.1;simp[bD,KV.down,cB H.1.1.1.2]
   ·cases H
  ·rename_i b g;obtain⟨x,J,h⟩:=cE h;obtain⟨xs,β,is,h,ht⟩:=As b H ih h;refine⟨xs,β,is,h,JP (f:=bD P (aB mem) (n+1)) (a:=(β,dS ag T xs,is)) ?_⟩;cases l<;>simp only at ht<;>first|cases ht|skip
   ·simp only[KV.down,bD,J,yb];rw[show x.down.row=x.row.down from rfl,FM];exact ht
   ·simp only[KV.down,bD,J,yb];rw[show x.down.row=x.row.down from rfl,FM];exact ht
  ·rename_i b g o m;obtain⟨x,J,h⟩:=cE h;obtain⟨w,hw,h,_⟩:=Gr h;obtain⟨xs,β,is,h,ht⟩:=As b H ih h;refine⟨xs,β,is,h,JP (f:=bD P (aB mem) (n+1)) (a:=(β,dS ag T xs,is)) ?_⟩;cases l<;>simp only at ht<;>first|cases ht|skip
   ·simp only[KV.down,bD,J,yb];rw[show x.down.row=x.row.down from rfl,hw];exact ht
   ·simp only[KV.down,bD,J,yb];rw[show x.down.row=x.row.down from rfl,hw];exact ht
  ·cases h
 | .cons a b,ls,cs,n,K,H,hn,h=>by
  have Y:a.depth≤n:=yq2 (Nat.le_max_left _ _) (show max a.depth b.depth≤n from hn);have hn2:b.depth≤n:=yq2 (Nat.le_max_right _ _) (show max a.depth b.depth≤n from hn);simp only[a7]at H;split at H
  ·rename_i l ls;simp only[yc]at H;obtain⟨⟨h1,U⟩,Z⟩:=H;have h1:=nb.1 h1;simp only[fE,h1]at h;obtain⟨x,β1,l1,h,J⟩:=lL U Y h;obtain⟨y,β2,l2,h,N⟩:=lL Z hn2 h;refine⟨(x,y),β1||β2,l1++l2,h,?_⟩;cases cs with
   |nil=>simp[KV.downs,cD]at J
   |cons v vs=>
    simp only[ya4,yi4,List.drop_succ_cons,yp2]at J N;exact Mu J N
  ·cases H
theorem Nu{v:KV}(h:HK mem [v]=none):pM (aB mem) v.down=none:=by
 have J: ∀b g,(∀z,eO mem b=some (some z)->(Nat.beq z.gen g&&iX z.row&&!z.frz)=false)->∀x,boxO? (aB mem) b g=some x->x.frz=true:=by
  intro b g h x H;unfold boxO? at H;rw[eW,<-bA]at H;cases K:eO mem b with
  |none=>rw[K]at H;cases H
  |some y=>cases y with
   |none=>rw[K]at H;cases H
   |some z=>
    have h:=h z K;rw[K]at H;simp only[yl,dE.down,dM]at H;cases N:Nat.beq z.gen g&&iX z.row with
    |false=>rw[N]at H;cases H
    |true=>
     rw[N]at H h;obtain rfl:=ya H;simpa using h
 cases v with
 |msw b g=>
  simp only[KV.down,pM];cases H:boxO? (aB mem) b g with
  |none=>rfl
  |some x=>
   have hf:=J b g (λz M=>by
    simp only[HK,M]at h;cases hc:Nat.beq z.gen g&&iX z.row&&!z.frz with
    |true=>rw[hc]at h;cases h
    |false=>rfl) x H
   simp only[yb];split
   ·rw[hf];rfl
   ·rfl
 |ms b g o n=>
  cases o with
  |succ o=>rfl
  |zero=>
   simp only[KV.down,pM];cases H:boxO? (aB mem) b g with
   |none=>rfl
   |some x=>
    have hf:=J b g (λz M=>by
     simp only[HK,M]at h;cases hc:Nat.beq z.gen g&&iX z.row&&!z.frz with
     |true=>rw[hc]at h;cases h
     |false=>rfl) x H
    simp only[yb];split
    ·rw[hf];rfl
    ·rfl
 |_=>rfl
theorem NV{l:LK}{v:AV}{m:aK}(h:pM m v=none):kA P m l v=bD P m ID l v:=by
 unfold kA;rw[h]
theorem Tw{α β γ:Type}{f g:γ->α->Option (Bool×β×List Nat)}{l:γ}{v:α}(h:f l v=g l v):cD f [l] [v]=cD g [l] [v]:=by simp[cD,h]
theorem Ds{T:Ty}{ls:List LK}(H:T.size=1)(h:a7 P T ls=true): ∃l,ls= [l]:=by
 rcases Ak H with ⟨k,rfl⟩|rfl|rfl|⟨ag,T,rfl⟩<;>(simp only[a7]at h;split at h<;>first|exact⟨_,rfl⟩|cases h)
theorem Tq{ls:List LK}{cs:List KV}{q:Bool×List PV×List Nat}(H: ∃l,ls= [l])(hn: ∀v,cs= [v]->HK mem [v]=none)(h:cD (bD P (aB mem) 6) ls (KV.downs cs)=some q):
  cD (kA P (aB mem)) ls (KV.downs cs)=some q:=by
 obtain⟨l,rfl⟩:=H;cases cs with
 |nil=>cases h
 |cons v vs=>cases vs with
  |cons w ws=>
   simp only[KV.downs,cD,FJ]at h;obtain⟨_,_,_,h,_⟩:=h;cases h
  |nil=>
   rw[<-h];exact Tw (NV (Nu (hn v rfl)))
theorem R7{T:Ty}{l:LK}(H:a7 P (.sl (fB T) T) [l]=true): ∃t,l= .sl t T.size:=by
 simp only[a7]at H;split at H
 ·rename_i k K;cases J:fB T with
  |true=>rw[J]at H;simp at H
  |false=>
   rw[J]at H;cases T with
   |int k'=>cases J
   |_=>simp at H
 ·rename_i t e K;obtain rfl:=(yb1 K).1;simp only[yc,yw]at H;obtain rfl:=nb.1 H.1.1.1.1;exact⟨t,rfl⟩
 ·cases H
theorem nU: ∀{T:Ty} {ls:List LK} {cs:List KV} {K:den T->Bool->List Nat->Option R},a7 P T ls=true->T.depth≤6->zW (aS R) mem T cs K=some r->
  ∃x β l,K x β l=some r/\cD (kA P (aB mem)) ls (KV.downs cs)=some (β,aQ T x,l)
 | .int k,ls,cs,K,J,hn,h=>by
  simp only[zW]at h;have Z:=h;obtain⟨x,β,l,hK,V⟩:=lL J hn h;refine⟨x,β,l,hK,Tq (Ds rfl J) (λv Y=>?_) V⟩;subst Y;cases v<;>first|rfl|(simp[fE]at Z)
 | .bool,ls,cs,K,J,hn,h=>by
  simp only[zW]at h;have Z:=h;obtain⟨x,β,l,hK,V⟩:=lL J hn h;refine⟨x,β,l,hK,Tq (Ds rfl J) (λv Y=>?_) V⟩;subst Y;cases v<;>first|rfl|(simp[fE]at Z)
 | .str,ls,cs,K,J,hn,h=>by
  simp only[zW]at h;have Z:=h;obtain⟨x,β,l,hK,V⟩:=lL J hn h;refine⟨x,β,l,hK,Tq (Ds rfl J) (λv Y=>?_) V⟩;subst Y;cases v<;>first|rfl|(simp[fE]at Z)
 | .sl ag T,ls,cs,K,J,hn,h=>by
  simp only[zW]at h;cases M:HK mem cs with
  |none=>
   rw[M]at h;obtain⟨x,β,l,hK,V⟩:=lL J hn h;exact⟨x,β,l,hK,Tq (Ds rfl J) (λv Y=>by rw[<-Y];exact M) V⟩
  |some q=>
   rw[M]at h;simp only at h;split at h
   ·rename_i H xs N;rw[bZ]at h;obtain⟨ha,h⟩:=h;obtain rfl:=KO.1 ha;split at h
    ·rename_i ys hy;obtain⟨rfl,rfl⟩:=eA hy;obtain⟨l,rfl⟩:=Ds rfl J;obtain⟨t0,rfl⟩:=R7 J;have U: ∀zs:List (den H),guardB (Nat.beq H.size H.size) (some (false,PV.sl H.size (zs.map (cR (fB H) H)),[q.1]))=some (false,dS (fB H) H zs,[q.1]):=by
      intro zs;simp[guardB,cB (Jg H)]
     unfold HK at M;split at M
     ·rename_i b g;split at M
      ·rename_i x W;rw[bZ]at M;obtain⟨O,M⟩:=M;obtain rfl:=ya M;simp only[yc,yw]at O;simp only at h N;refine⟨xs,false,[b],h,JP (f:=kA P (aB mem)) (a:=(false,dS (fB H) H xs,[b])) ?_⟩;have hT:pM (aB mem) (.msw b g)=some (b,H.size,xs.map (cR (fB H) H)):=by
        simp only[pM,boxO?];rw[n7 W];simp only[dE.down,dM,O.1.1,O.1.2,O.2,yi1,yg,yb];rw[N];rfl
       simp only[KV.down,kA,hT];exact U xs
      ·cases M
     ·rename_i b g o n;split at M
      ·rename_i x W;rw[bZ]at M;obtain⟨O,M⟩:=M;obtain rfl:=ya M;simp only[yc,yw]at O;simp only[real_guard]at h N;rw[bZ]at h;obtain⟨ho0,h⟩:=h;obtain rfl:=nb.1 ho0;rw[bZ]at h;obtain⟨hnl,h⟩:=h;refine⟨xs.take n,false,[b],h,JP (f:=kA P (aB mem)) (a:=(false,dS (fB H) H (xs.take n),[b])) ?_⟩;have hT:pM (aB mem) (.ms b g 0 n)=some (b,H.size,(xs.take n).map (cR (fB H) H)):=by
        simp only[pM,boxO?];rw[n7 W];simp only[dE.down,dM,O.1.1,O.1.2,O.2,yi1,yg,yb];rw[N];simp only[KRow.down,yk1,hnl,bB];simp[guardB,yl3]
       simp only[KV.down,kA,hT];exact U _
      ·cases M
     ·cases M
    ·cases h
   ·cases h
 | .cons a b,ls,cs,K,J,hn,h=>by
  have hn1:a.depth≤6:=yq2 (Nat.le_max_left _ _) (show max a.depth b.depth≤6 from hn);have hn2:b.depth≤6:=yq2 (Nat.le_max_right _ _) (show max a.depth b.depth≤6 from hn);simp only[a7]at J;split at J
  ·rename_i l ls;simp only[yc]at J;obtain⟨⟨h1,hla⟩,hlb⟩:=J;have h1:=nb.1 h1;simp only[zW,h1]at h;obtain⟨x,β1,l1,h,W⟩:=nU hla hn1 h;obtain⟨y,β2,l2,h,hy⟩:=nU hlb hn2 h;refine⟨(x,y),β1||β2,l1++l2,h,?_⟩;cases cs with
   |nil=>simp[KV.downs,cD]at W
   |cons v vs=>
    simp only[ya4,yi4,List.drop_succ_cons,yp2]at W hy;exact Mu W hy
  ·cases J
end
end Go.Ab
