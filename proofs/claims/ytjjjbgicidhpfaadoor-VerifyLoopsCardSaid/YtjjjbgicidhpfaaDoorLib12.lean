import Derived.Test.YtjjjbgicidhpfaaDoorLib11
set_option linter.unusedVariables false
set_option linter.unusedSectionVars false
set_option linter.unusedSimpArgs false
namespace Go.Ab
variable [b3]
section
variable {P:Program} {R:Type} {r:R} {mem:aE}
theorem Hs{α β γ:Type}{f:γ->α->Option (Bool×β×List Nat)}{l:γ}{v:α}{a:Bool×β×List Nat}(h:f l v=some a):bY f [l] [v]=some (a.1,[a.2.1],a.2.2):=by
 simp[bY,h]
theorem Jr{α β γ:Type}{f:γ->α->Option (Bool×β×List Nat)}{l:γ}{ls:List γ}{v:α}{vs:List α}{β1 β2:Bool}{p q:List β}{i j:List Nat}
  (H:bY f [l] [v]=some (β1,p,i)) (J:bY f ls vs=some (β2,q,j)):bY f (l::ls) (v::vs)=some (β1||β2,p++q,i++j):=by
 simp only[bY,Cy]at H;obtain⟨a,I,b,K,H⟩:=H;obtain rfl:=ya K;simp only[Option.some.injEq,Prod.mk.injEq,Bool.or_false,yg1]at H;obtain⟨rfl,rfl,rfl⟩:=H;simp[bY,I,J]
theorem oE{t:TypeId}{ag:Bool}{T:Ty}(h:isAgg? P t=some ag)(hs:ag=false->T.size=1)(x:den T):qZ P t (aO T x)=some (cF ag T x):=by
 unfold qZ;rw[h];cases ag with
 |true=>rfl
 |false=>
  have H:=bN (T:=T) (x:=x);rw[hs rfl]at H;obtain⟨c,I⟩:=ye2.1 H;rw[I,cF,I];rfl
theorem lA{β ag:Bool}{T:Ty}(h:fZ ag T=false):zY β ag T=β:=by
 cases T<;>cases ag<;>first|rfl|cases h
theorem w8{α β:Type}(f:α->β)(e:Nat): ∀(n:Nat) (cs:List α),chunks e n (cs.map f)=(chunks e n cs).map (List.map f)
 |0,_=>rfl
 |n+1,cs=>by simp only[chunks,yt1,<-yk3,<-yv2,w8 f e n]
theorem vZ{a:Ty}(h:a.size=1):(∃k,a= .int k)\/a= .bool\/a= .str\/∃ag T,a= .sl ag T:=by
 cases a with
 |int k=>exact .inl ⟨k,rfl⟩
 |bool=>exact .inr (.inl rfl)
 |str=>exact .inr (.inr (.inl rfl))
 |sl ag T=>exact .inr (.inr (.inr ⟨ag,T,rfl⟩))
 |cons a b=>have h1:=Ty.size_pos (T:=a);have h2:=Ty.size_pos (T:=b);have:a.size+b.size=1:=h;omega
theorem B9{ag:Bool}{T:Ty}{f:List KV->(den T->Bool->List Nat->Option R)->Option R}{g:List AV->Option (Bool×PV×List Nat)}
  (I: ∀(c:List KV) (K:den T->Bool->List Nat->Option R),f c K=some r->∃x β l,K x β l=some r/\g (KV.downs c)=some (β,cF ag T x,l)):
  ∀{cs:List (List KV)} {K:List (den T)->Bool->List Nat->Option R},eF.denAll ag T f cs K=some r->
   ∃xs β l,K xs β l=some r/\fG g (cs.map (List.map KV.down))=some (β,xs.map (cF ag T),l)
 | [],K,h=>⟨[],false,[],h,rfl⟩
 |c::cs,K,h=>by
  simp only[eF.denAll]at h;obtain⟨x,β1,M,h,J⟩:=I _ _ h;obtain⟨xs,β2,N,h,H⟩:=B9 I h;rw[cC]at J;exact⟨x::xs,β1||β2,M++N,h,by simp[fG,J,H]⟩
theorem Et{k:IntKind}: ∀{cs:List KV} {K:List Int->Bool->List Nat->Option R},eF.denAll false (.int k) (eF (aQ R) mem (.int k)) (chunks 1 cs.length cs) K=some r->
   ∃xs:List Int,K xs false []=some r/\eM k (KV.downs cs)=some xs
 | [],K,h=>⟨[],h,rfl⟩
 |c::cs,K,h=>by
  simp only[ym2,chunks,List.take_succ_cons,List.take_zero,List.drop_succ_cons,List.drop_zero,eF.denAll,eF]at h;split at h
  ·rename_i k' x I;rw[bP]at h;obtain⟨J,h⟩:=h;obtain⟨xs,h,H⟩:=Et h;simp only[List.cons.injEq,and_true]at I;subst I;exact⟨x::xs,h,by simp[KV.downs,KV.down,eM,J,H]⟩
  ·cases h
theorem vW(b:Nat){ag:Bool}{T:Ty}{n:Nat}{l:LK}(I:aZ P (.sl ag T) [l]=true)
  (ih: ∀{ls:List LK} {cs:List KV} {K:den T->Bool->List Nat->Option R},aZ P T ls=true->eF (aQ R) mem T cs K=some r->∃x β l,K x β l=some r/\bY (bA P (aB mem) n) ls (KV.downs cs)=some (β,aO T x,l))
  {row:KRow} {K:List (den T)->Bool->List Nat->Option R} (h:eF.denRow ag T (eF (aQ R) mem T) b row K=some r):
  ∃xs β is,K xs β is=some r/\(match l with
   | .ints k=>bA.treeInts k b row.view
   | .sl t e=>bA.treeSl P (bA P (aB mem) n) t e b row.view
   |_=>none)=some (β,c8 ag T xs,is):=by
 simp only[aZ]at I;split at I
 ·rename_i k hk;obtain rfl:=(yx hk).1;cases ag with
  |true=>simp at I
  |false=>
   cases T with
   |int k'=>
    simp only at I;obtain rfl:=qK.1 I;cases row with
    |os=>cases h
    |ts β ag' T' xs=>
     simp only[eF.denRow]at h;rw[bP]at h;obtain⟨V,h⟩:=h;obtain rfl:=HS.1 V;split at h
     ·rename_i ys hy;obtain⟨rfl,rfl⟩:=dG hy;exact⟨xs,_,_,h,by show bA.treeInts k b (.ints k xs)=some (false,.ints k xs,[b]);simp only[bA.treeInts,dS,qK,true_and]⟩
     ·cases h
    |cells e cs=>
     simp only[eF.denRow]at h;rw[bP]at h;obtain⟨N,h⟩:=h;obtain rfl:=nb.1 N;have hc:aP (Ty.size (.int k)) cs.length=cs.length:=rfl;rw[hc]at h;obtain⟨xs,h,Y⟩:=Et h;exact⟨xs,_,_,h,by simp[KRow.view,bA.treeInts,guardB,Ty.size,Y,LU]⟩
   |_=>simp at I
 ·rename_i t e hk;obtain rfl:=(yx hk).1;simp only[yb,yq]at I;obtain⟨⟨⟨⟨N,H⟩,J⟩,O⟩,M⟩:=I;obtain rfl:=nb.1 N;have W:isAgg? P t=some ag:=by
   split at J
   ·rename_i a V;rw[V,HS.1 J]
   ·cases J
  have U:ag=false->T.size=1:=λe=>by rw[e]at O;exact nb.1 (by simpa using O)
  split at M
  ·rename_i ls' Z;cases row with
   |os=>cases h
   |ts β ag' T' xs=>
    simp only[eF.denRow]at h;rw[bP]at h;obtain⟨V,h⟩:=h;obtain rfl:=HS.1 V;split at h
    ·rename_i ys hy;obtain⟨rfl,rfl⟩:=dG hy;refine⟨xs,_,_,h,?_⟩;rw[KRow.view_sl H,lA H,bU H];simp[bA.treeSl,guardB]
    ·cases h
   |cells e cs=>
    simp only[eF.denRow]at h;rw[bP]at h;obtain⟨N,h⟩:=h;obtain rfl:=nb.1 N;obtain⟨xs,β,is,h,Y⟩:=B9 (ag:=ag) (g:=λvs=>(bY (bA P (aB mem) n) ls' vs).bind λq=>(qZ P t q.2.1).map λp=>(q.1,p,q.2.2)) (λc K hc=>by
     obtain⟨x,β,l,hK,hz⟩:=ih M hc;exact⟨x,β,l,hK,by simp[hz,oE W U]⟩) h
    refine⟨xs,β,_,h,?_⟩;rw[<-w8,<-cC]at Y;rw[bU H];simp only[KRow.view,bA.treeSl,dS,Z,ye];rw[aJ,Y];simp[guardB,Ty.size_pos,nl.2 Ty.size_pos]
  ·cases M
 ·cases I
theorem jN: ∀{T:Ty} {ls:List LK} {cs:List KV} {n:Nat} {K:den T->Bool->List Nat->Option R},aZ P T ls=true->T.depth≤n->eF (aQ R) mem T cs K=some r->
  ∃x β l,K x β l=some r/\bY (bA P (aB mem) n) ls (KV.downs cs)=some (β,aO T x,l)
 | .int k,ls,cs,n,K,H,hn,h=>by
  obtain⟨n,rfl⟩: ∃m,n=m+1:=⟨n-1,by have:1≤n:=hn;omega⟩
  simp only[aZ]at H;split at H
  ·rename_i V;obtain rfl:=qK.1 H;simp only[eF]at h;split at h
   ·rename_i V x;rw[bP]at h;exact⟨x,false,[],h.2,Hs (β:=PV) (f:=bA P (aB mem) (n+1)) (a:=(false,PV.lit (.int k x),[])) (by simp[bA,KV.down,guardB,h.1,(qK.1 h.1).symm,qK.2])⟩
   ·cases h
  ·cases H
 | .bool,ls,cs,n,K,H,hn,h=>by
  obtain⟨n,rfl⟩: ∃m,n=m+1:=⟨n-1,by have:1≤n:=hn;omega⟩
  simp only[aZ]at H;split at H
  ·simp only[eF]at h;split at h
   ·rename_i x;exact⟨x,false,[],h,Hs (β:=PV) (f:=bA P (aB mem) (n+1)) (a:=(false,PV.lit (.bool x),[])) (by simp[bA,KV.down])⟩
   ·cases h
  ·cases H
 | .str,ls,cs,n,K,H,hn,h=>by
  obtain⟨n,rfl⟩: ∃m,n=m+1:=⟨n-1,by have:1≤n:=hn;omega⟩
  simp only[aZ]at H;split at H
  ·simp only[eF]at h;split at h
   ·rename_i x;exact⟨x,false,[],h,Hs (β:=PV) (f:=bA P (aB mem) (n+1)) (a:=(false,PV.lit (.string x),[])) (by simp[bA,KV.down])⟩
   ·cases h
  ·cases H
 | .sl ag T,ls,cs,n,K,H,hn,h=>by
  obtain⟨n,rfl⟩: ∃m,n=m+1:=⟨n-1,by have:T.depth+1≤n:=hn;omega⟩
  have U:T.depth≤n:=by have:T.depth+1≤n+1:=hn;omega
  have Y: ∃l,ls= [l]:=by
   simp only[aZ]at H;split at H
   ·exact⟨_,rfl⟩
   ·exact⟨_,rfl⟩
   ·cases H
  obtain⟨l,rfl⟩:=Y;have ih: ∀{ls:List LK} {cs:List KV} {K:den T->Bool->List Nat->Option R},aZ P T ls=true->eF (aQ R) mem T cs K=some r->∃x β l,K x β l=some r/\bY (bA P (aB mem) n) ls (KV.downs cs)=some (β,aO T x,l):=
   λH h=>jN H U h
  simp only[eF]at h;split at h
  ·rename_i β ag' T' xs;rw[bP]at h;obtain⟨ha,h⟩:=h;obtain rfl:=HS.1 ha;split at h
   ·rename_i ys M;obtain⟨rfl,rfl⟩:=dG M;refine⟨xs,β,[],h,Hs (f:=bA P (aB mem) (n+1)) (a:=(β,c8 ag T' xs,[])) ?_⟩;simp only[aZ]at H;split at H
    ·rename_i k J;obtain rfl:=(yx J).1;cases ag with
     |true=>simp at H
     |false=>
      cases T' with
      |int V=>
       simp only at H;obtain rfl:=qK.1 H;show bA P (aB mem) (n+1) (.ints k) (.imm β (.ints k xs))=some (β,.ints k xs,[]);simp[bA,guardB,qK.2]
      |_=>simp at H
    ·rename_i t e J;obtain rfl:=(yx J).1;simp only[yb,yq]at H;obtain rfl:=nb.1 H.1.1.1.1;simp[bA,KV.down,bU H.1.1.1.2,guardB]
    ·cases H
   ·cases h
  ·refine⟨[],false,[],h,Hs (f:=bA P (aB mem) (n+1)) (a:=(false,c8 ag T [],[])) ?_⟩;simp only[aZ]at H;split at H
   ·rename_i k J;obtain rfl:=(yx J).1;cases ag with
    |true=>simp at H
    |false=>
     cases T with
     |int V=>simp only at H;obtain rfl:=qK.1 H;simp[bA,KV.down];rfl
     |_=>simp at H
   ·rename_i t e J;obtain rfl:=(yx J).1;simp only[yb,yq]at H;obtain rfl:=nb.1 H.1.1.1.1;simp[bA,KV.down,bU H.1.1.1.2]
   ·cases H
  ·rename_i b g;obtain⟨x,I,h⟩:=bZ h;obtain⟨xs,β,is,h,ht⟩:=vW b H ih h;refine⟨xs,β,is,h,Hs (f:=bA P (aB mem) (n+1)) (a:=(β,c8 ag T xs,is)) ?_⟩;cases l<;>simp only at ht<;>first|cases ht|skip
   ·simp only[KV.down,bA,I,ye];rw[show x.down.row=x.row.down from rfl,CB];exact ht
   ·simp only[KV.down,bA,I,ye];rw[show x.down.row=x.row.down from rfl,CB];exact ht
  ·rename_i b g o m;obtain⟨x,I,h⟩:=bZ h;obtain⟨w,hw,h,_⟩:=Ek h;obtain⟨xs,β,is,h,ht⟩:=vW b H ih h;refine⟨xs,β,is,h,Hs (f:=bA P (aB mem) (n+1)) (a:=(β,c8 ag T xs,is)) ?_⟩;cases l<;>simp only at ht<;>first|cases ht|skip
   ·simp only[KV.down,bA,I,ye];rw[show x.down.row=x.row.down from rfl,hw];exact ht
   ·simp only[KV.down,bA,I,ye];rw[show x.down.row=x.row.down from rfl,hw];exact ht
  ·cases h
 | .cons a b,ls,cs,n,K,H,hn,h=>by
  have Z:a.depth≤n:=yc2 (Nat.le_max_left _ _) (show max a.depth b.depth≤n from hn);have W:b.depth≤n:=yc2 (Nat.le_max_right _ _) (show max a.depth b.depth≤n from hn);simp only[aZ]at H;split at H
  ·rename_i l ls;simp only[yb]at H;obtain⟨⟨O,hla⟩,N⟩:=H;have O:=nb.1 O;simp only[eF,O]at h;obtain⟨x,β1,l1,h,I⟩:=jN hla Z h;obtain⟨y,β2,l2,h,M⟩:=jN N W h;refine⟨(x,y),β1||β2,l1++l2,h,?_⟩;cases cs with
   |nil=>simp[KV.downs,bY]at I
   |cons v vs=>
    simp only[List.take_succ_cons,List.take_zero,List.drop_succ_cons,List.drop_zero]at I M;exact Jr I M
  ·cases H
theorem JS{v:KV}(h:CZ mem [v]=none):nA (aB mem) v.down=none:=by
 have I: ∀b g,(∀z,dW mem b=some (some z)->(Nat.beq z.gen g&&gI z.row&&!z.frz)=false)->∀x,boxO? (aB mem) b g=some x->x.frz=true:=by
  intro b g h x H;unfold boxO? at H;rw[d6,<-a7]at H;cases J:dW mem b with
  |none=>rw[J]at H;cases H
  |some y=>cases y with
   |none=>rw[J]at H;cases H
   |some z=>
    have h:=h z J;rw[J]at H;simp only[yh,cS.down,c5]at H;cases O:Nat.beq z.gen g&&gI z.row with
    |false=>rw[O]at H;cases H
    |true=>
     rw[O]at H h;obtain rfl:=ya H;simpa using h
 cases v with
 |msw b g=>
  simp only[KV.down,nA];cases H:boxO? (aB mem) b g with
  |none=>rfl
  |some x=>
   have M:=I b g (λz K=>by
    simp only[CZ,K]at h;cases N:Nat.beq z.gen g&&gI z.row&&!z.frz with
    |true=>rw[N]at h;cases h
    |false=>rfl) x H
   simp only[ye];split
   ·rw[M];rfl
   ·rfl
 |ms b g o n=>
  cases o with
  |succ o=>rfl
  |zero=>
   simp only[KV.down,nA];cases H:boxO? (aB mem) b g with
   |none=>rfl
   |some x=>
    have M:=I b g (λz K=>by
     simp only[CZ,K]at h;cases N:Nat.beq z.gen g&&gI z.row&&!z.frz with
     |true=>rw[N]at h;cases h
     |false=>rfl) x H
    simp only[ye];split
    ·rw[M];rfl
    ·rfl
 |_=>rfl
theorem JD{l:LK}{v:AV}{m:aK}(h:nA m v=none):iI P m l v=bA P m FO l v:=by
 unfold iI;rw[h]
theorem Oq{α β γ:Type}{f g:γ->α->Option (Bool×β×List Nat)}{l:γ}{v:α}(h:f l v=g l v):bY f [l] [v]=bY g [l] [v]:=by simp[bY,h]
theorem AT{T:Ty}{ls:List LK}(H:T.size=1)(h:aZ P T ls=true): ∃l,ls= [l]:=by
 rcases vZ H with ⟨k,rfl⟩|rfl|rfl|⟨ag,T,rfl⟩<;>(simp only[aZ]at h;split at h<;>first|exact⟨_,rfl⟩|cases h)
theorem N5{ls:List LK}{cs:List KV}{q:Bool×List PV×List Nat}(H: ∃l,ls= [l])(hn: ∀v,cs= [v]->CZ mem [v]=none)(h:bY (bA P (aB mem) 6) ls (KV.downs cs)=some q):
  bY (iI P (aB mem)) ls (KV.downs cs)=some q:=by
 obtain⟨l,rfl⟩:=H;cases cs with
 |nil=>cases h
 |cons v vs=>cases vs with
  |cons w ws=>
   simp only[KV.downs,bY,Cy]at h;obtain⟨_,_,_,h,_⟩:=h;cases h
  |nil=>
   rw[<-h];exact Oq (JD (JS (hn v rfl)))
theorem M6{T:Ty}{l:LK}(H:aZ P (.sl (eE T) T) [l]=true): ∃t,l= .sl t T.size:=by
 simp only[aZ]at H;split at H
 ·rename_i k J;cases I:eE T with
  |true=>rw[I]at H;simp at H
  |false=>
   rw[I]at H;cases T with
   |int k'=>cases I
   |_=>simp at H
 ·rename_i t e J;obtain rfl:=(yx J).1;simp only[yb,yq]at H;obtain rfl:=nb.1 H.1.1.1.1;exact⟨t,rfl⟩
 ·cases H
theorem lH: ∀{T:Ty} {ls:List LK} {cs:List KV} {K:den T->Bool->List Nat->Option R},aZ P T ls=true->T.depth≤6->vJ (aQ R) mem T cs K=some r->
  ∃x β l,K x β l=some r/\bY (iI P (aB mem)) ls (KV.downs cs)=some (β,aO T x,l)
 | .int k,ls,cs,K,I,hn,h=>by
  simp only[vJ]at h;have Y:=h;obtain⟨x,β,l,hK,U⟩:=jN I hn h;refine⟨x,β,l,hK,N5 (AT rfl I) (λv W=>?_) U⟩;subst W;cases v<;>first|rfl|(simp[eF]at Y)
 | .bool,ls,cs,K,I,hn,h=>by
  simp only[vJ]at h;have Y:=h;obtain⟨x,β,l,hK,U⟩:=jN I hn h;refine⟨x,β,l,hK,N5 (AT rfl I) (λv W=>?_) U⟩;subst W;cases v<;>first|rfl|(simp[eF]at Y)
 | .str,ls,cs,K,I,hn,h=>by
  simp only[vJ]at h;have Y:=h;obtain⟨x,β,l,hK,U⟩:=jN I hn h;refine⟨x,β,l,hK,N5 (AT rfl I) (λv W=>?_) U⟩;subst W;cases v<;>first|rfl|(simp[eF]at Y)
 | .sl ag T,ls,cs,K,I,hn,h=>by
  simp only[vJ]at h;cases J:CZ mem cs with
  |none=>
   rw[J]at h;obtain⟨x,β,l,hK,U⟩:=jN I hn h;exact⟨x,β,l,hK,N5 (AT rfl I) (λv W=>by rw[<-W];exact J) U⟩
  |some q=>
   rw[J]at h;simp only at h;split at h
   ·rename_i H xs M;rw[bP]at h;obtain⟨ha,h⟩:=h;obtain rfl:=HS.1 ha;split at h
    ·rename_i ys Z;obtain⟨rfl,rfl⟩:=dG Z;obtain⟨l,rfl⟩:=AT rfl I;obtain⟨t0,rfl⟩:=M6 I;have O: ∀zs:List (den H),guardB (Nat.beq H.size H.size) (some (false,PV.sl H.size (zs.map (cF (eE H) H)),[q.1]))=some (false,c8 (eE H) H zs,[q.1]):=by
      intro zs;simp[guardB,bU (FS H)]
     unfold CZ at J;split at J
     ·rename_i b g;split at J
      ·rename_i x V;rw[bP]at J;obtain⟨N,J⟩:=J;obtain rfl:=ya J;simp only[yb,yq]at N;simp only at h M;refine⟨xs,false,[b],h,Hs (f:=iI P (aB mem)) (a:=(false,c8 (eE H) H xs,[b])) ?_⟩;have hT:nA (aB mem) (.msw b g)=some (b,H.size,xs.map (cF (eE H) H)):=by
        simp only[nA,boxO?];rw[lW V];simp only[cS.down,c5,N.1.1,N.1.2,N.2,yl3,yl,ye];rw[M];rfl
       simp only[KV.down,iI,hT];exact O xs
      ·cases J
     ·rename_i b g o n;split at J
      ·rename_i x V;rw[bP]at J;obtain⟨N,J⟩:=J;obtain rfl:=ya J;simp only[yb,yq]at N;simp only[real_guard]at h M;rw[bP]at h;obtain⟨ho0,h⟩:=h;obtain rfl:=nb.1 ho0;rw[bP]at h;obtain⟨hnl,h⟩:=h;refine⟨xs.take n,false,[b],h,Hs (f:=iI P (aB mem)) (a:=(false,c8 (eE H) H (xs.take n),[b])) ?_⟩;have hT:nA (aB mem) (.ms b g 0 n)=some (b,H.size,(xs.take n).map (cF (eE H) H)):=by
        simp only[nA,boxO?];rw[lW V];simp only[cS.down,c5,N.1.1,N.1.2,N.2,yl3,yl,ye];rw[M];simp only[KRow.down,ye1,hnl,a8];simp[guardB,yv2]
       simp only[KV.down,iI,hT];exact O _
      ·cases J
     ·cases J
    ·cases h
   ·cases h
 | .cons a b,ls,cs,K,I,hn,h=>by
  have hn1:a.depth≤6:=yc2 (Nat.le_max_left _ _) (show max a.depth b.depth≤6 from hn);have hn2:b.depth≤6:=yc2 (Nat.le_max_right _ _) (show max a.depth b.depth≤6 from hn);simp only[aZ]at I;split at I
  ·rename_i l ls;simp only[yb]at I;obtain⟨⟨h1,hla⟩,hlb⟩:=I;have h1:=nb.1 h1;simp only[vJ,h1]at h;obtain⟨x,β1,l1,h,V⟩:=lH hla hn1 h;obtain⟨y,β2,l2,h,Z⟩:=lH hlb hn2 h;refine⟨(x,y),β1||β2,l1++l2,h,?_⟩;cases cs with
   |nil=>simp[KV.downs,bY]at V
   |cons v vs=>
    simp only[List.take_succ_cons,List.take_zero,List.drop_succ_cons,List.drop_zero]at V Z;exact Jr V Z
  ·cases I
end
end Go.Ab
