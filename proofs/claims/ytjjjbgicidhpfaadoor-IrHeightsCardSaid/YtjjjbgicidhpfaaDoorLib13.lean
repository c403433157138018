import Derived.Test.YtjjjbgicidhpfaaDoorLib12
set_option linter.unusedVariables false
set_option linter.unusedSectionVars false
set_option linter.unusedSimpArgs false
namespace Go.Ab
variable [cS]
section
variable {P:Program} {R:Type} {r:R} {mem:aH}
theorem MG{α β γ:Type}{f:γ->α->Option (Bool×β×List Nat)}{l:γ}{v:α}{a:Bool×β×List Nat}(h:f l v=some a):cP f [l] [v]=some (a.1,[a.2.1],a.2.2):=by
 simp[cP,h]
theorem OZ{α β γ:Type}{f:γ->α->Option (Bool×β×List Nat)}{l:γ}{ls:List γ}{v:α}{vs:List α}{β1 β2:Bool}{p q:List β}{i j:List Nat}
  (H:cP f [l] [v]=some (β1,p,i)) (J:cP f ls vs=some (β2,q,j)):cP f (l::ls) (v::vs)=some (β1||β2,p++q,i++j):=by
 simp only[cP,Hx]at H;obtain⟨a,M,b,K,H⟩:=H;obtain rfl:=yb K;simp only[Option.some.injEq,Prod.mk.injEq,Bool.or_false,ys1]at H;obtain⟨rfl,rfl,rfl⟩:=H;simp[cP,M,J]
theorem sW{t:TypeId}{ag:Bool}{T:Ty}(h:isAgg? P t=some ag)(hs:ag=false->T.size=1)(x:den T):zU P t (aV T x)=some (c9 ag T x):=by
 unfold zU;rw[h];cases ag with
 |true=>rfl
 |false=>
  have H:=cD (T:=T) (x:=x);rw[hs rfl]at H;obtain⟨c,hc⟩:=yw2.1 H;rw[hc,c9,hc];rfl
theorem pJ{β ag:Bool}{T:Ty}(h:jW ag T=false):CZ β ag T=β:=by
 cases T<;>cases ag<;>first|rfl|cases h
theorem Ce{α β:Type}(f:α->β)(e:Nat): ∀(n:Nat) (cs:List α),chunks e n (cs.map f)=(chunks e n cs).map (List.map f)
 |0,_=>rfl
 |n+1,cs=>by simp only[chunks,yl2,<-yh4,<-yp3,Ce f e n]
theorem Bv{a:Ty}(h:a.size=1):(∃k,a= .int k)\/a= .bool\/a= .str\/∃ag T,a= .sl ag T:=by
 cases a with
 |int k=>exact .inl ⟨k,rfl⟩
 |bool=>exact .inr (.inl rfl)
 |str=>exact .inr (.inr (.inl rfl))
 |sl ag T=>exact .inr (.inr (.inr ⟨ag,T,rfl⟩))
 |cons a b=>have h1:=Ty.size_pos (T:=a);have h2:=Ty.size_pos (T:=b);have:a.size+b.size=1:=h;omega
theorem GM{ag:Bool}{T:Ty}{f:List KV->(den T->Bool->List Nat->Option R)->Option R}{g:List AV->Option (Bool×PV×List Nat)}
  (hf: ∀(c:List KV) (K:den T->Bool->List Nat->Option R),f c K=some r->∃x β l,K x β l=some r/\g (KV.downs c)=some (β,c9 ag T x,l)):
  ∀{cs:List (List KV)} {K:List (den T)->Bool->List Nat->Option R},gG.denAll ag T f cs K=some r->
   ∃xs β l,K xs β l=some r/\i7 g (cs.map (List.map KV.down))=some (β,xs.map (c9 ag T),l)
 | [],K,h=>⟨[],false,[],h,rfl⟩
 |c::cs,K,h=>by
  simp only[gG.denAll]at h;obtain⟨x,β1,N,h,J⟩:=hf _ _ h;obtain⟨xs,β2,M,h,H⟩:=GM hf h;rw[dD]at J;exact⟨x::xs,β1||β2,N++M,h,by simp[i7,J,H]⟩
theorem JT{k:IntKind}: ∀{cs:List KV} {K:List Int->Bool->List Nat->Option R},gG.denAll false (.int k) (gG (aZ R) mem (.int k)) (chunks 1 cs.length cs) K=some r->
   ∃xs:List Int,K xs false []=some r/\gP k (KV.downs cs)=some xs
 | [],K,h=>⟨[],h,rfl⟩
 |c::cs,K,h=>by
  simp only[yw,chunks,yc4,yi4,List.drop_succ_cons,yd2,gG.denAll,gG]at h;split at h
  ·rename_i k' x hc;rw[cJ]at h;obtain⟨J,h⟩:=h;obtain⟨xs,h,H⟩:=JT h;simp only[List.cons.injEq,and_true]at hc;subst hc;exact⟨x::xs,h,by simp[KV.downs,KV.down,gP,J,H]⟩
  ·cases h
theorem Br(b:Nat){ag:Bool}{T:Ty}{n:Nat}{l:LK}(J:bE P (.sl ag T) [l]=true)
  (ih: ∀{ls:List LK} {cs:List KV} {K:den T->Bool->List Nat->Option R},bE P T ls=true->gG (aZ R) mem T cs K=some r->∃x β l,K x β l=some r/\cP (bM P (aD mem) n) ls (KV.downs cs)=some (β,aV T x,l))
  {row:KRow} {K:List (den T)->Bool->List Nat->Option R} (h:gG.denRow ag T (gG (aZ R) mem T) b row K=some r):
  ∃xs β is,K xs β is=some r/\(match l with
   | .ints k=>bM.treeInts k b row.view
   | .sl t e=>bM.treeSl P (bM P (aD mem) n) t e b row.view
   |_=>none)=some (β,eJ ag T xs,is):=by
 simp only[bE]at J;split at J
 ·rename_i k hk;obtain rfl:=(yd1 hk).1;cases ag with
  |true=>simp at J
  |false=>
   cases T with
   |int k'=>
    simp only at J;obtain rfl:=yR.1 J;cases row with
    |os=>cases h
    |ts β ag' T' xs=>
     simp only[gG.denRow]at h;rw[cJ]at h;obtain⟨Y,h⟩:=h;obtain rfl:=MP.1 Y;split at h
     ·rename_i ys hy;obtain⟨rfl,rfl⟩:=eT hy;exact⟨xs,_,_,h,by show bM.treeInts k b (.ints k xs)=some (false,.ints k xs,[b]);simp only[bM.treeInts,e9,yR,true_and]⟩
     ·cases h
    |cells e cs=>
     simp only[gG.denRow]at h;rw[cJ]at h;obtain⟨V,h⟩:=h;obtain rfl:=nb.1 V;have hc:aY (Ty.size (.int k)) cs.length=cs.length:=rfl;rw[hc]at h;obtain⟨xs,h,Z⟩:=JT h;exact⟨xs,_,_,h,by simp[KRow.view,bM.treeInts,guardB,Ty.size,Z,R2]⟩
   |_=>simp at J
 ·rename_i t e hk;obtain rfl:=(yd1 hk).1;simp only[yc,yx]at J;obtain⟨⟨⟨⟨V,H⟩,M⟩,W⟩,N⟩:=J;obtain rfl:=nb.1 V;have O:isAgg? P t=some ag:=by
   split at M
   ·rename_i a Y;rw[Y,MP.1 M]
   ·cases M
  have U:ag=false->T.size=1:=λe=>by rw[e]at W;exact nb.1 (by simpa using W)
  split at N
  ·rename_i ls' hl';cases row with
   |os=>cases h
   |ts β ag' T' xs=>
    simp only[gG.denRow]at h;rw[cJ]at h;obtain⟨Y,h⟩:=h;obtain rfl:=MP.1 Y;split at h
    ·rename_i ys hy;obtain⟨rfl,rfl⟩:=eT hy;refine⟨xs,_,_,h,?_⟩;rw[KRow.view_sl H,pJ H,cO H];simp[bM.treeSl,guardB]
    ·cases h
   |cells e cs=>
    simp only[gG.denRow]at h;rw[cJ]at h;obtain⟨V,h⟩:=h;obtain rfl:=nb.1 V
    obtain⟨xs,β,is,h,Z⟩:=GM (ag:=ag) (g:=λvs=>(cP (bM P (aD mem) n) ls' vs).bind λq=>(zU P t q.2.1).map λp=>(q.1,p,q.2.2)) (λc K hc=>by
     obtain⟨x,β,l,hK,hz⟩:=ih N hc
     exact⟨x,β,l,hK,by simp[hz,sW O U]⟩) h
    refine⟨xs,β,_,h,?_⟩;rw[<-Ce,<-dD]at Z;rw[cO H];simp only[KRow.view,bM.treeSl,e9,hl',ya];rw[aN,Z];simp[guardB,Ty.size_pos,nl.2 Ty.size_pos]
  ·cases N
 ·cases J
theorem nK: ∀{T:Ty} {ls:List LK} {cs:List KV} {n:Nat} {K:den T->Bool->List Nat->Option R},bE P T ls=true->T.depth≤n->gG (aZ R) mem T cs K=some r->
  ∃x β l,K x β l=some r/\cP (bM P (aD mem) n) ls (KV.downs cs)=some (β,aV T x,l)
 | .int k,ls,cs,n,K,H,hn,h=>by
  obtain⟨n,rfl⟩: ∃m,n=m+1:=⟨n-1,by have:1≤n:=hn;omega⟩
  simp only[bE]at H;split at H
  ·rename_i k';obtain rfl:=yR.1 H;simp only[gG]at h;split at h
   ·rename_i k' x;rw[cJ]at h;exact⟨x,false,[],h.2,MG (β:=PV) (f:=bM P (aD mem) (n+1)) (a:=(false,PV.lit (.int k x),[])) (by simp[bM,KV.down,guardB,h.1,(yR.1 h.1).symm,yR.2])⟩
   ·cases h
  ·cases H
 | .bool,ls,cs,n,K,H,hn,h=>by
  obtain⟨n,rfl⟩: ∃m,n=m+1:=⟨n-1,by have:1≤n:=hn;omega⟩
  simp only[bE]at H;split at H
  ·simp only[gG]at h;split at h
   ·rename_i x;exact⟨x,false,[],h,MG (β:=PV) (f:=bM P (aD mem) (n+1)) (a:=(false,PV.lit (.bool x),[])) (by simp[bM,KV.down])⟩
   ·cases h
  ·cases H
 | .str,ls,cs,n,K,H,hn,h=>by
  obtain⟨n,rfl⟩: ∃m,n=m+1:=⟨n-1,by have:1≤n:=hn;omega⟩
  simp only[bE]at H;split at H
  ·simp only[gG]at h;split at h
   ·rename_i x;exact⟨x,false,[],h,MG (β:=PV) (f:=bM P (aD mem) (n+1)) (a:=(false,PV.lit (.string x),[])) (by simp[bM,KV.down])⟩
   ·cases h
  ·cases H
 | .sl ag T,ls,cs,n,K,H,hn,h=>by
  obtain⟨n,rfl⟩: ∃m,n=m+1:=⟨n-1,by have:T.depth+1≤n:=hn;omega⟩
  have W:T.depth≤n:=by have:T.depth+1≤n+1:=hn;omega
  have Z: ∃l,ls= [l]:=by
   simp only[bE]at H;split at H
   ·exact⟨_,rfl⟩
   ·exact⟨_,rfl⟩
   ·cases H
  obtain⟨l,rfl⟩:=Z;have ih: ∀{ls:List LK} {cs:List KV} {K:den T->Bool->List Nat->Option R},bE P T ls=true->gG (aZ R) mem T cs K=some r->∃x β l,K x β l=some r/\cP (bM P (aD mem) n) ls (KV.downs cs)=some (β,aV T x,l):=
   λH h=>nK H W h
  simp only[gG]at h;split at h
  ·rename_i β ag' T' xs;rw[cJ]at h;obtain⟨ha,h⟩:=h;obtain rfl:=MP.1 ha;split at h
   ·rename_i ys N;obtain⟨rfl,rfl⟩:=eT N;refine⟨xs,β,[],h,MG (f:=bM P (aD mem) (n+1)) (a:=(β,eJ ag T' xs,[])) ?_⟩;simp only[bE]at H;split at H
    ·rename_i k M;obtain rfl:=(yd1 M).1;cases ag with
     |true=>simp at H
     |false=>
      cases T' with
      |int k'=>
       simp only at H;obtain rfl:=yR.1 H;show bM P (aD mem) (n+1) (.ints k) (.imm β (.ints k xs))=some (β,.ints k xs,[]);simp[bM,guardB,yR.2]
      |_=>simp at H
    ·rename_i t e M;obtain rfl:=(yd1 M).1;simp only[yc,yx]at H;obtain rfl:=nb.1 H.1.1.1.1;simp[bM,KV.down,cO H.1.1.1.2,guardB]
    ·cases H
   ·cases h
  ·refine⟨[],false,[],h,MG (f:=bM P (aD mem) (n+1)) (a:=(false,eJ ag T [],[])) ?_⟩;simp only[bE]at H;split at H
   ·rename_i k M;obtain rfl:=(yd1 M).1;cases ag with
    |true=>simp at H
    |false=>
     cases T with
     |int k'=>simp only at H;obtain rfl:=yR.1 H;simp[bM,KV.down];rfl
     |_=>simp at H
   ·rename_i t e M;obtain rfl:=(yd1 M).1;simp only[yc,yx]at H;obtain rfl:=nb.1 H.1.1.1.1;simp[bM,KV.down,cO H.1.1.1.2]
   ·cases H
  ·rename_i b g;obtain⟨x,J,h⟩:=cR h;obtain⟨xs,β,is,h,ht⟩:=Br b H ih h;refine⟨xs,β,is,h,MG (f:=bM P (aD mem) (n+1)) (a:=(β,eJ ag T xs,is)) ?_⟩;cases l<;>simp only at ht<;>first|cases ht|skip
   ·simp only[KV.down,bM,J,ya];rw[show x.down.row=x.row.down from rfl,HA];exact ht
   ·simp only[KV.down,bM,J,ya];rw[show x.down.row=x.row.down from rfl,HA];exact ht
  ·rename_i b g o m;obtain⟨x,J,h⟩:=cR h;obtain⟨w,hw,h,_⟩:=I7 h;obtain⟨xs,β,is,h,ht⟩:=Br b H ih h;refine⟨xs,β,is,h,MG (f:=bM P (aD mem) (n+1)) (a:=(β,eJ ag T xs,is)) ?_⟩;cases l<;>simp only at ht<;>first|cases ht|skip
   ·simp only[KV.down,bM,J,ya];rw[show x.down.row=x.row.down from rfl,hw];exact ht
   ·simp only[KV.down,bM,J,ya];rw[show x.down.row=x.row.down from rfl,hw];exact ht
  ·cases h
 | .cons a b,ls,cs,n,K,H,hn,h=>by
  have O:a.depth≤n:=yv2 (Nat.le_max_left _ _) (show max a.depth b.depth≤n from hn);have U:b.depth≤n:=yv2 (Nat.le_max_right _ _) (show max a.depth b.depth≤n from hn);simp only[bE]at H;split at H
  ·rename_i l ls;simp only[yc]at H;obtain⟨⟨Y,V⟩,hlb⟩:=H;have Y:=nb.1 Y;simp only[gG,Y]at h;obtain⟨x,β1,l1,h,J⟩:=nK V O h;obtain⟨y,β2,l2,h,N⟩:=nK hlb U h;refine⟨(x,y),β1||β2,l1++l2,h,?_⟩;cases cs with
   |nil=>simp[KV.downs,cP]at J
   |cons v vs=>
    simp only[yc4,yi4,List.drop_succ_cons,yd2]at J N;exact OZ J N
  ·cases H
theorem P0{v:KV}(h:It mem [v]=none):rC (aD mem) v.down=none:=by
 have J: ∀b g,(∀z,fD mem b=some (some z)->(Nat.beq z.gen g&&kJ z.row&&!z.frz)=false)->∀x,boxO? (aD mem) b g=some x->x.frz=true:=by
  intro b g h x H;unfold boxO? at H;rw[fT,<-bH]at H;cases K:fD mem b with
  |none=>rw[K]at H;cases H
  |some y=>cases y with
   |none=>rw[K]at H;cases H
   |some z=>
    have h:=h z K;rw[K]at H;simp only[yl,dW.down,eC]at H;cases N:Nat.beq z.gen g&&kJ z.row with
    |false=>rw[N]at H;cases H
    |true=>
     rw[N]at H h;obtain rfl:=yb H;simpa using h
 cases v with
 |msw b g=>
  simp only[KV.down,rC];cases H:boxO? (aD mem) b g with
  |none=>rfl
  |some x=>
   have hf:=J b g (λz M=>by
    simp only[It,M]at h;cases hc:Nat.beq z.gen g&&kJ z.row&&!z.frz with
    |true=>rw[hc]at h;cases h
    |false=>rfl) x H
   simp only[ya];split
   ·rw[hf];rfl
   ·rfl
 |ms b g o n=>
  cases o with
  |succ o=>rfl
  |zero=>
   simp only[KV.down,rC];cases H:boxO? (aD mem) b g with
   |none=>rfl
   |some x=>
    have hf:=J b g (λz M=>by
     simp only[It,M]at h;cases hc:Nat.beq z.gen g&&kJ z.row&&!z.frz with
     |true=>rw[hc]at h;cases h
     |false=>rfl) x H
    simp only[ya];split
    ·rw[hf];rfl
    ·rfl
 |_=>rfl
theorem Qa{l:LK}{v:AV}{m:aO}(h:rC m v=none):lS P m l v=bM P m KD l v:=by
 unfold lS;rw[h]
theorem Vm{α β γ:Type}{f g:γ->α->Option (Bool×β×List Nat)}{l:γ}{v:α}(h:f l v=g l v):cP f [l] [v]=cP g [l] [v]:=by simp[cP,h]
theorem FG{T:Ty}{ls:List LK}(H:T.size=1)(h:bE P T ls=true): ∃l,ls= [l]:=by
 rcases Bv H with ⟨k,rfl⟩|rfl|rfl|⟨ag,T,rfl⟩<;>(simp only[bE]at h;split at h<;>first|exact⟨_,rfl⟩|cases h)
theorem Vr{ls:List LK}{cs:List KV}{q:Bool×List PV×List Nat}(H: ∃l,ls= [l])(hn: ∀v,cs= [v]->It mem [v]=none)(h:cP (bM P (aD mem) 6) ls (KV.downs cs)=some q):
  cP (lS P (aD mem)) ls (KV.downs cs)=some q:=by
 obtain⟨l,rfl⟩:=H;cases cs with
 |nil=>cases h
 |cons v vs=>cases vs with
  |cons w ws=>
   simp only[KV.downs,cP,Hx]at h;obtain⟨_,_,_,h,_⟩:=h;cases h
  |nil=>
   rw[<-h];exact Vm (Qa (P0 (hn v rfl)))
theorem TR{T:Ty}{l:LK}(H:bE P (.sl (gF T) T) [l]=true): ∃t,l= .sl t T.size:=by
 simp only[bE]at H;split at H
 ·rename_i k K;cases J:gF T with
  |true=>rw[J]at H;simp at H
  |false=>
   rw[J]at H;cases T with
   |int k'=>cases J
   |_=>simp at H
 ·rename_i t e K;obtain rfl:=(yd1 K).1;simp only[yc,yx]at H;obtain rfl:=nb.1 H.1.1.1.1;exact⟨t,rfl⟩
 ·cases H
theorem pS: ∀{T:Ty} {ls:List LK} {cs:List KV} {K:den T->Bool->List Nat->Option R},bE P T ls=true->T.depth≤6->Bj (aZ R) mem T cs K=some r->
  ∃x β l,K x β l=some r/\cP (lS P (aD mem)) ls (KV.downs cs)=some (β,aV T x,l)
 | .int k,ls,cs,K,J,hn,h=>by
  simp only[Bj]at h;have Z:=h;obtain⟨x,β,l,hK,W⟩:=nK J hn h;refine⟨x,β,l,hK,Vr (FG rfl J) (λv Y=>?_) W⟩;subst Y;cases v<;>first|rfl|(simp[gG]at Z)
 | .bool,ls,cs,K,J,hn,h=>by
  simp only[Bj]at h;have Z:=h;obtain⟨x,β,l,hK,W⟩:=nK J hn h;refine⟨x,β,l,hK,Vr (FG rfl J) (λv Y=>?_) W⟩;subst Y;cases v<;>first|rfl|(simp[gG]at Z)
 | .str,ls,cs,K,J,hn,h=>by
  simp only[Bj]at h;have Z:=h;obtain⟨x,β,l,hK,W⟩:=nK J hn h;refine⟨x,β,l,hK,Vr (FG rfl J) (λv Y=>?_) W⟩;subst Y;cases v<;>first|rfl|(simp[gG]at Z)
 | .sl ag T,ls,cs,K,J,hn,h=>by
  simp only[Bj]at h;cases M:It mem cs with
  |none=>
   rw[M]at h;obtain⟨x,β,l,hK,W⟩:=nK J hn h;exact⟨x,β,l,hK,Vr (FG rfl J) (λv Y=>by rw[<-Y];exact M) W⟩
  |some q=>
   rw[M]at h;simp only at h;split at h
   ·rename_i H xs N;rw[cJ]at h;obtain⟨ha,h⟩:=h;obtain rfl:=MP.1 ha;split at h
    ·rename_i ys hy;obtain⟨rfl,rfl⟩:=eT hy;obtain⟨l,rfl⟩:=FG rfl J;obtain⟨t0,rfl⟩:=TR J;have U: ∀zs:List (den H),guardB (Nat.beq H.size H.size) (some (false,PV.sl H.size (zs.map (c9 (gF H) H)),[q.1]))=some (false,eJ (gF H) H zs,[q.1]):=by
      intro zs;simp[guardB,cO (Lb H)]
     unfold It at M;split at M
     ·rename_i b g;split at M
      ·rename_i x V;rw[cJ]at M;obtain⟨O,M⟩:=M;obtain rfl:=yb M;simp only[yc,yx]at O;simp only at h N;refine⟨xs,false,[b],h,MG (f:=lS P (aD mem)) (a:=(false,eJ (gF H) H xs,[b])) ?_⟩;have hT:rC (aD mem) (.msw b g)=some (b,H.size,xs.map (c9 (gF H) H)):=by
        simp only[rC,boxO?];rw[pZ V];simp only[dW.down,eC,O.1.1,O.1.2,O.2,yj1,yh,ya];rw[N];rfl
       simp only[KV.down,lS,hT];exact U xs
      ·cases M
     ·rename_i b g o n;split at M
      ·rename_i x V;rw[cJ]at M;obtain⟨O,M⟩:=M;obtain rfl:=yb M;simp only[yc,yx]at O;simp only[real_guard]at h N;rw[cJ]at h;obtain⟨ho0,h⟩:=h;obtain rfl:=nb.1 ho0;rw[cJ]at h;obtain⟨hnl,h⟩:=h;refine⟨xs.take n,false,[b],h,MG (f:=lS P (aD mem)) (a:=(false,eJ (gF H) H (xs.take n),[b])) ?_⟩;have hT:rC (aD mem) (.ms b g 0 n)=some (b,H.size,(xs.take n).map (c9 (gF H) H)):=by
        simp only[rC,boxO?];rw[pZ V];simp only[dW.down,eC,O.1.1,O.1.2,O.2,yj1,yh,ya];rw[N];simp only[KRow.down,ym1,hnl,bI];simp[guardB,yp3]
       simp only[KV.down,lS,hT];exact U _
      ·cases M
     ·cases M
    ·cases h
   ·cases h
 | .cons a b,ls,cs,K,J,hn,h=>by
  have hn1:a.depth≤6:=yv2 (Nat.le_max_left _ _) (show max a.depth b.depth≤6 from hn);have hn2:b.depth≤6:=yv2 (Nat.le_max_right _ _) (show max a.depth b.depth≤6 from hn);simp only[bE]at J;split at J
  ·rename_i l ls;simp only[yc]at J;obtain⟨⟨h1,hla⟩,hlb⟩:=J;have h1:=nb.1 h1;simp only[Bj,h1]at h;obtain⟨x,β1,l1,h,V⟩:=pS hla hn1 h;obtain⟨y,β2,l2,h,hy⟩:=pS hlb hn2 h;refine⟨(x,y),β1||β2,l1++l2,h,?_⟩;cases cs with
   |nil=>simp[KV.downs,cP]at V
   |cons v vs=>
    simp only[yc4,yi4,List.drop_succ_cons,yd2]at V hy;exact OZ V hy
  ·cases J
end
end Go.Ab
