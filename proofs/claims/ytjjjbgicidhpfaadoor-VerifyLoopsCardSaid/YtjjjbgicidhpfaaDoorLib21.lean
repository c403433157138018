import Derived.Test.YtjjjbgicidhpfaaDoorLib20
set_option linter.unusedVariables false
set_option linter.unusedSectionVars false
set_option linter.unusedSimpArgs false
namespace Go.Ab
variable [b3]
section
variable {P:Program} {R:Type} {r:R} {mem:aE} {tab:TypeId->Option TI} {C:bM} {tbl:FuncId->List aD}
theorem pY(mem:aE)(b:Nat):sA (aB mem) b=AZ mem b:=by
 unfold sA AZ;rw[GZ];cases dW mem b with
 |none=>rfl
 |some y=>cases y with
  |none=>rfl
  |some x=>exact c5 x.row
theorem Bb(mem:aE)(v:KV):yM (aB mem) v.down=wC mem v:=by
 cases v with
 |msw b g=>exact pY mem b
 |ms b g o n=>exact pY mem b
 |_=>rfl
theorem LI(mem:aE)(v:KV):He (aB mem) v.down=Lb mem v:=by
 cases v with
 |msw b g=>exact pY mem b
 |_=>rfl
theorem Gc(mem:aE)(v:KV):HO (aB mem) v.down=Dj mem v:=by
 cases v with
 |ptr b g i c=>exact pY mem b
 |_=>rfl
theorem M8(c:Nat): ∀hs:cK,zT c (a8 hs)=a8 (Dg c hs)
 | []=>rfl
 |(i,H,v)::r=>by
  simp only[a8,zT,Dg];cases Nat.beq c H with
  |true=>rfl
  |false=>simp only[yj,a8,M8 c r]
theorem j2(a b:cK):a8 (a++b)=a8 a++a8 b:=by
 induction a with
 |nil=>rfl
 |cons h a H=>simp only[yt2,a8,H]
theorem HQ(a b:aE):aB (a++b)=aB a++aB b:=by simp[aB]
noncomputable def Ok(P:Program):List Ty->List LK->Bool
 | [],[]=>true
 |T::Ts,l::ls=>aZ P T [l]&&Ok P Ts ls
 |_,_=>false
theorem HJ: ∀{T:Ty} {ls:List LK},aZ P T ls=true->Ok P (cM T) ls=true
 | .cons a b,ls,h=>by
  simp only[aZ]at h;split at h
  ·rename_i l ls;simp only[yb]at h;simp only[cM,e7 (nb.1 h.1.1),List.singleton_append,Ok,yb];exact⟨h.1.2,HJ h.2⟩
  ·cases h
 | .int k,ls,h=>one rfl h
 | .bool,ls,h=>one rfl h
 | .str,ls,h=>one rfl h
 | .sl ag T,ls,h=>one rfl h
 where
 one {T:Ty} {ls:List LK} (H:T.size=1) (h:aZ P T ls=true):Ok P (cM T) ls=true:=by
  obtain⟨l,rfl⟩:=AT H h;rw[e7 H];simp only[Ok,h,yl3]
theorem MC{T:Ty}{u:Value}(h:gM T (.lit u)=true):T.flat=true:=by
 cases T<;>first|rfl|(cases u<;>cases h)
theorem Ed(ag:Bool)(T:Ty)(xs:List (den T)):cH (c8 ag T xs)=some (KRow.ts false ag T xs).down:=by
 cases H:aY ag T with
 |true=>obtain⟨rfl,kk,rfl⟩:=aN.1 H;rfl
 |false=>
  rw[bU H,KRow.down_sl H];simp only[cH];rw[dS];exact⟨nl.2 Ty.size_pos,rfl⟩
theorem JR{tk:Bool}{i c:Nat}{v:KV}{hs:cK}{nb:Nat}{k:KV->cK->List KRow->Option R}{xs:List PV}{p q:PV}{l:LK}{T:Ty}(M:aZ P T [l]=true)(K:gM T v=true)
  (V:xs[i]?=some p) (Y:p.cells[c]?=some q) (H:jG true v q) (h:AE (aQ R) tk i c v hs nb k=some r):
  ∃a hs' rows,k a hs' rows=some r/\mJ tk xs i c l (a8 hs) nb=some (a.down,a8 hs',rows.map KRow.down):=by
 unfold AE at h;unfold mJ;simp only[V,Y,ye,rH];cases N:kJ c hs with
 |some hh=>
  rw[N]at h;simp only[real_guard]at h;rw[bP]at h;refine⟨_,_,_,h.2,?_⟩;simp only[yh];rw[dS];exact⟨h.1,rfl⟩
 |none=>
  rw[N]at h;simp only[Option.map_none]at h⊢
  have I:=p3 M;simp only[ye3,List.all_nil,yd3]at I;split at h
  ·rename_i u;rw[I,MC K];refine⟨_,_,_,h,?_⟩;simp only[yl,rM M K H,yh];rfl
  ·rename_i β ag O U;rw[bP]at h;cases T with
   |sl W T2=>
    rw[I];refine⟨_,_,_,h.2,?_⟩;show guardB tk _=_;rw[dS];refine⟨h.1,?_⟩;have J:q=c8 ag O U:=by
     rcases H with ⟨_,_,e,_⟩|⟨_,e,_⟩|⟨_,e,_⟩|⟨_,_,_,e,rfl⟩<;>cases e
     rfl
    rw[J,Ed];rfl
   |_=>cases K
  ·cases h
theorem Bw{tk:Bool}{i:Nat}{xs:List PV}{p:PV}(W:xs[i]?=some p): ∀{vs:List KV} {N:List Ty} {ls:List LK} {c:Nat} {hs:cK} {nb:Nat} {k:List KV->cK->List KRow->Option R},
  Ok P N ls=true->aU N vs=true->(∀(j:Nat) (v:KV),vs[j]?=some v->∃q,p.cells[c+j]?=some q/\jG true v q)->Cw (aQ R) tk i vs c hs nb k=some r->
   ∃as hs' rows,k as hs' rows=some r/\nE tk xs i ls c (a8 hs) nb=some (KV.downs as,a8 hs',rows.map KRow.down)
 | [],[],[],c,hs,nb,k,H,I,K,h=>⟨[],hs,[],h,rfl⟩
 |v::vs,T::N,l::ls,c,hs,nb,k,H,I,K,h=>by
  simp only[Ok,yb]at H;simp only[aU,yb]at I;obtain⟨q,M,U⟩:=K 0 v rfl;rw[yk1]at M;simp only[Cw]at h;obtain⟨a,Z,rows,h,hr⟩:=JR H.1 I.1 W M U h;obtain⟨as,O,J,h,V⟩:=Bw W (c:=c+1) H.2 I.2 (λj w hj=>by
   obtain⟨q,Y,h2⟩:=K (j+1) w (by simpa using hj);exact⟨q,by rw[show c+1+j=c+(j+1) by omega];exact Y,h2⟩) h
  refine⟨a::as,O,rows++J,h,?_⟩;simp only[nE,hr,ye,ye1,V,yh,KV.downs,yg3]
 | [],_::_,_,_,_,_,_,H,I,K,h=>by cases I
 |_::_,[],_,_,_,_,_,H,I,K,h=>by cases I
 | [],[],_::_,_,_,_,_,H,I,K,h=>by cases H
 |_::_,_::_,[],_,_,_,_,H,I,K,h=>by cases H
theorem pC: ∀rows:List KRow,eA (rows.map KRow.down)=aB (oB rows)
 | []=>rfl
 |r::rs=>by
  have H:=pC rs;simp only[yt1,eA,oB,H];rfl
theorem Gq(b:Nat)(H:cS)(T:Ty)(xs:List (den T))(v:KV)(hs:cK)(rows:List KRow):
  (JG b H T xs v hs rows).down=yZ b T.size H.down (xs.map (cF (eE T) T)) v.down (a8 hs,rows.map KRow.down):=by
 cases rows with
 |nil=>rfl
 |cons r rs=>
  show cU.mk _ _ _ (aB (oB (r::rs)))=_;rw[<-pC];rfl
theorem KE(ht:bL P tab){tk:Bool}{t:TypeId}{a:KV}{k:a9->Option R}(h:KA (aQ R) tab tk t mem a k=some r): ∃out,k out=some r/\zO P tk t (aB mem) a.down=some out.down:=by
 unfold KA at h;split at h
 ·rename_i ti Z;have H:=bT.of (ht _ _ Z);split at h
  ·rename_i b g i c;obtain⟨bx,K,h⟩:=eC h;split at h
   ·rename_i T xs hs N;split at h
    ·rename_i T' V;simp only[real_getN]at h;rw[Cy]at h;obtain⟨x,hx,h⟩:=h;rw[bP]at h;obtain⟨hl,h⟩:=h;obtain⟨⟨ls,J,hc⟩,hn,hag,_⟩:=H.ty T' V;have hp:(xs.map (cF (eE T) T))[i]?=some (cF (eE T) T x):=by rw[yc1,hx];rfl
     have hq: ∀(j:Nat) (v:KV),(((cellsOf true T x).drop c).take ti.n)[j]?=some v->∃q,(cF (eE T) T x).cells[c+j]?=some q/\jG true v q:=by
      intro j v M;rw[yi1]at M;split at M
      ·rw[yz]at M;rw[b4];exact(iZ (β:=true) (x:=x)).2 _ v M
      ·cases M
     have hd:bx.down.row= .own T.size (xs.map (cF (eE T) T)) (a8 hs):=by rw[show bx.down.row=bx.row.down from rfl,N];rfl
     obtain⟨as,hs',rows,h,hr⟩:=Bw hp (HJ hc) hl hq h;cases O:ti.ag with
     |true=>
      rw[O]at h;simp only[yl]at h;refine⟨_,h,?_⟩;have I:=H.ag;rw[O]at I;simp only[KV.down,zO,K,ye,hd,I,J,H.n];rw[dS];refine⟨nb.2 (by rw[dM hc,hn]),?_⟩;rw[dO,hr,yh,Gq];rfl
     |false=>
      rw[O]at h;simp only[yj]at h;have I:=H.ag;rw[O]at I;obtain⟨l,Y,rfl⟩:=eP I J;split at h
      ·rename_i v;refine⟨_,h,?_⟩;simp only[KV.down,zO,K,ye,hd,I,Y];rw[dO];simp only[nE,Cy]at hr;obtain⟨q,W,hr⟩:=hr;rw[yc]at hr;obtain⟨q2,U,hr⟩:=hr;obtain rfl:=ya U;simp only[yg1,Prod.mk.injEq,KV.downs,List.cons.injEq,and_true]at hr;obtain⟨e1,e2,e3⟩:=hr;rw[W,yh,Gq,e1,<-e2,<-e3]
      ·cases h
    ·cases h
   ·cases h
  ·cases h
 ·cases h
theorem wX{i c:Nat}{hs:cK}{k:cK->Option R}(h:D5 (aQ R) i c hs k=some r): ∃hs',k hs'=some r/\Ce i c (a8 hs)=some (a8 hs'):=by
 unfold D5 at h;unfold Ce;rw[rH];cases H:kJ c hs with
 |none=>rw[H]at h;exact⟨hs,h,rfl⟩
 |some q=>
  rw[H]at h;simp only[real_guard]at h;rw[bP]at h;obtain⟨I,h⟩:=h;rw[bP]at h;refine⟨_,h.2,?_⟩;simp only[yh];rw[dS];rw[M8,rH,p5,<-sQ,yb];exact⟨⟨h.1,I⟩,rfl⟩
theorem KC(ag:Bool)(T:Ty)(xs:List (den T)):z5 (c8 ag T xs)=some (c8 ag T []):=by
 cases H:aY ag T with
 |true=>obtain⟨rfl,kk,rfl⟩:=aN.1 H;rfl
 |false=>
  rw[bU H,bU H];simp only[z5];rw[dS];exact⟨nl.2 Ty.size_pos,rfl⟩
theorem GT{u v:Value}(h:CF u v=true):jG false (.lit v) (.lit v):=by
 unfold CF at h;split at h
 ·exact .inl ⟨_,_,rfl,rfl⟩
 ·exact .inr (.inl ⟨_,rfl,rfl⟩)
 ·exact .inr (.inr (.inl ⟨_,rfl,rfl⟩))
 ·cases h
theorem Kr(ag:Bool)(T:Ty)(xs:List (den T)):(∃k H,c8 ag T xs= .ints k H)\/∃e H,c8 ag T xs= .sl e H:=by
 cases I:aY ag T with
 |true=>obtain⟨rfl,J,rfl⟩:=aN.1 I;exact .inl ⟨J,xs,rfl⟩
 |false=>exact .inr ⟨_,_,bU I xs⟩
theorem Bs{t:TypeId}{m:aK}{b g i c e:Nat}{I:bG}{xs:List PV}{hs hs':List (Nat×Nat×AV)}{p y:PV}{x:AV}(M:boxO? m b g=some I)(hr:I.row= .own e xs hs)(hn:gW P t=some 1)(V:I.frz=false)(W:GJ x=true)
  (U: ∀v,x≠ .lit v) (N:xs[i]?=some p) (O:p.cells[c]?=some y) (K:(∃k H,y= .ints k H)\/∃e H,y= .sl e H) (J:Ce i c hs=some hs'):
  kH P t m (.ptr b g i c) x=some {v:= .lit undef,rd:= [b],wr:= [(b,{I with row:= .own e xs ((i,c,x)::hs')})]}:=by
 simp only[kH,M,hr,hn,V,W,ye,N,O];rw[dS];refine⟨rfl,?_⟩;rcases K with ⟨k,H,rfl⟩|⟨e',H,rfl⟩<;>cases x<;>first|exact absurd rfl (U _)|simp only[J,yh]
theorem JL{t:TypeId}{m:aK}{b g i c e:Nat}{I:bG}{xs:List PV}{hs hs':List (Nat×Nat×AV)}{p y M:PV}(O:boxO? m b g=some I)(hr:I.row= .own e xs hs)(hn:gW P t=some 1)(W:I.frz=false)
  (U:xs[i]?=some p) (V:p.cells[c]?=some y) (K:(∃k H,y= .ints k H)\/∃e H,y= .sl e H) (N:z5 y=some M) (J:Ce i c hs=some hs'):
  kH P t m (.ptr b g i c) (.lit (.slice none 0 0))=some {v:= .lit undef,rd:= [b],wr:= [(b,{I with row:= .own e (xs.set i (iB p c M)) hs'})]}:=by
 simp only[kH,O,hr,hn,W,ye,U,V];rw[dS];refine⟨rfl,?_⟩;rcases K with ⟨k,H,rfl⟩|⟨e',H,rfl⟩<;>simp only[N,ye,J,yh]
theorem H6(ht:bL P tab){t:TypeId}{a x:KV}{k:a9->Option R}(h:Hn (aQ R) tab t mem a x k=some r): ∃out,k out=some r/\kH P t (aB mem) a.down x.down=some out.down:=by
 unfold Hn at h;split at h
 ·rename_i ti hti;have hok:=bT.of (ht _ _ hti);split at h
  ·rename_i b g i c;obtain⟨bx,M,h⟩:=eC h;split at h
   ·rename_i T xs hs hrow;rw[bP]at h;obtain⟨hg,h⟩:=h;simp only[yb,yq]at hg;obtain⟨⟨g1,g2⟩,g3⟩:=hg;simp only[real_getN]at h;rw[Cy]at h;obtain⟨p,hp,h⟩:=h;have hn:gW P t=some 1:=by rw[hok.n,nb.1 g1]
    have hd:bx.down.row= .own T.size (xs.map (cF (eE T) T)) (a8 hs):=by rw[show bx.down.row=bx.row.down from rfl,hrow];rfl
    have K:(xs.map (cF (eE T) T))[i]?=some (cF (eE T) T p):=by rw[yc1,hp];rfl
    split at h
    ·rename_i u H;rw[a7]at H;obtain⟨y,hy,N⟩:=(cV.of false T p).2 _ _ H;have I:y= .lit u:=by
      rcases N with ⟨_,_,e,rfl⟩|⟨_,e,rfl⟩|⟨_,e,rfl⟩|⟨_,_,_,e,_⟩<;>cases e<;>rfl
     subst I;split at h
     ·rename_i v;rw[bP]at h;obtain⟨U,h⟩:=h;simp only[yb]at U;have V:c<(aO T p).length:=(yd.1 hy).1;rw[rG]at h;obtain⟨z,_,_,h,hz⟩:=j6 ((cV.of false T p).set (GT U.1) c) h;refine⟨_,h,?_⟩;simp only[KV.down,kH,M,hd,hn,ye,K,b4,hy,show bx.down.frz=bx.frz from rfl,g2];rw[dS];refine⟨oI g3,?_⟩;rw[dS];refine⟨?_,?_⟩
      ·rw[yb,rH,p5,<-sQ];exact U
      ·rw[El V hz,Kz];rfl
     ·cases h
    ·rename_i β W T' Z H;rw[a7]at H;obtain⟨y,hy,N⟩:=(cV.of false T p).2 _ _ H;have I:y=c8 W T' Z:=by
      rcases N with ⟨_,_,e,_⟩|⟨_,e,_⟩|⟨_,e,_⟩|⟨_,_,_,e,rfl⟩<;>cases e
      rfl
     have O:(cF (eE T) T p).cells[c]?=some y:=by rw[b4];exact hy
     have Y:(∃k Z,y= .ints k Z)\/∃e Z,y= .sl e Z:=by rw[I];exact Kr _ _ _
     split at h
     ·obtain⟨hs',h,J⟩:=wX h;have V:c<(aO T p).length:=(yd.1 hy).1;rw[rG]at h;obtain⟨z,_,_,h,hz⟩:=j6 ((cV.of false T p).set (v:= .tsl false W T' []) (q:=c8 W T' []) (.inr (.inr (.inr ⟨_,_,_,rfl,rfl⟩))) c) h;refine⟨_,h,?_⟩;have:=JL (P:=P) M hd hn g2 K O Y (by rw[I];exact KC _ _ _) J;rw[El V hz,Kz]at this;exact this
     ·obtain⟨hs',h,J⟩:=wX h;exact⟨_,h,Bs (P:=P) M hd hn g2 (oI g3) (by simp[KV.down]) K O Y J⟩
     ·obtain⟨hs',h,J⟩:=wX h;exact⟨_,h,Bs (P:=P) M hd hn g2 (oI g3) (by simp[KV.down]) K O Y J⟩
     ·cases h
    ·cases h
   ·cases h
  ·cases h
 ·cases h
theorem Mq(ht:bL P tab){t:TypeId}{x:KV}{k:a9->Option R}(h:MT tab t mem x k=some r): ∃out,k out=some r/\Im P t (aB mem) x.down=some out.down:=by
 unfold MT at h;split at h
 ·rename_i ti K;have I:=bT.of (ht _ _ K);split at h
  ·rename_i et b g N;obtain⟨M,J,h⟩:=eC h;split at h
   ·rename_i T xs hs H;refine⟨_,h,?_⟩;simp only[KV.down,Im,I.under_sl N,J,yh,show M.down.row=M.row.down from rfl,mS,H];rfl
   ·cases h
  ·cases h
 ·cases h
theorem In(ht:bL P tab){t:TypeId}{x:KV}{i:Int}{k:a9->Option R}(h:Hu (aQ R) tab t mem x i k=some r): ∃out,k out=some r/\pK P t (aB mem) x.down i=some out.down:=by
 unfold Hu at h;have N:=e8 ht h;clear h;obtain⟨et,te,O,K,h,M⟩:=N;have I:=bT.of (ht _ _ K);split at h
 ·rename_i b g o n;obtain⟨J,H,h⟩:=eC h;rw[bP]at h;obtain⟨hn,h⟩:=h;simp only[real_guard]at h;rw[bP]at h;refine⟨_,h.2,?_⟩;simp only[pK,KV.down,M,I.n,ye,H,show J.down.row=J.row.down from rfl,vN,dS,hn,h.1,yb3];exact⟨by simp,rfl⟩
 ·rename_i b g;obtain⟨J,H,h⟩:=eC h;rw[bP]at h;obtain⟨hn,h⟩:=h;simp only[real_guard]at h;rw[bP]at h;refine⟨_,h.2,?_⟩;simp only[pK,KV.down,M,I.n,ye,H,show J.down.row=J.row.down from rfl,vN,mS,dS,hn,h.1,yb3];exact⟨by simp,rfl⟩
 ·cases h
theorem H5(ht:bL P tab){t:TypeId}{x:KV}{V U O:Option Int}{k:a9->Option R}(h:Hi (aQ R) tab t mem x V U O k=some r): ∃out,k out=some r/\pA P t (aB mem) x.down V U O=some out.down:=by
 unfold Hi at h;have W:=e8 ht h;clear h;obtain⟨et,te,Y,K,h,N⟩:=W;have I:=bT.of (ht _ _ K);split at h
 ·rename_i b g o n;obtain⟨J,H,h⟩:=eC h;rw[bP]at h;obtain⟨hn,h⟩:=h;obtain⟨q,M,h⟩:=eR h;refine⟨_,h,?_⟩;simp only[pA,KV.down,N,I.n,ye,H,show J.down.row=J.row.down from rfl,vN,dS,hn,M,yh];exact⟨trivial,rfl⟩
 ·rename_i b g;obtain⟨J,H,h⟩:=eC h;rw[bP]at h;obtain⟨hn,h⟩:=h;obtain⟨q,M,h⟩:=eR h;refine⟨_,h,?_⟩;simp only[pA,KV.down,N,I.n,ye,H,show J.down.row=J.row.down from rfl,vN,mS,dS,hn,M,yh];exact⟨trivial,rfl⟩
 ·cases h
theorem Lf{ag:Bool}{T:Ty}{l:LK}(H:aZ P (.sl ag T) [l]=true):(∃k,l= .ints k/\ag=false/\T= .int k)\/(∃t,l= .sl t T.size/\aY ag T=false):=by
 simp only[aZ]at H;split at H
 ·rename_i k I;obtain rfl:=(yx I).1;cases ag with
  |true=>simp at H
  |false=>
   cases T with
   |int k'=>simp only at H;obtain rfl:=qK.1 H;exact .inl ⟨k,rfl,rfl,rfl⟩
   |_=>simp at H
 ·rename_i t e I;obtain rfl:=(yx I).1;simp only[yb,yq]at H;obtain rfl:=nb.1 H.1.1.1.1;exact .inr ⟨t,rfl,H.1.1.1.2⟩
 ·cases H
theorem Av{T:Ty}{l:LK}(H:aZ P T [l]=true):(∀k,T= .int k->l= .int k)/\(T= .bool->l= .bool)/\(T= .str->l= .str):=by
 refine⟨?_,?_,?_⟩
 ·rintro k rfl
  simp only[aZ]at H;split at H
  ·rename_i k' I;obtain rfl:=(yx I).1;rw[qK.1 H]
  ·cases H
 ·rintro rfl
  simp only[aZ]at H;split at H
  ·rename_i I;exact(yx I).1
  ·cases H
 ·rintro rfl
  simp only[aZ]at H;split at H
  ·rename_i I;exact(yx I).1
  ·cases H
theorem J2{T:Ty}{l:LK}{v:KV}{j c:Nat}{a:KV×cK}(H:aZ P T [l]=true)(h:Kn T v j c=some a):
  ∃q,zF l v.down j c=some (q,a8 a.2)/\jG false a.1 q:=by
 have hole: ∀{ag:Bool} {T:Ty} {w:AV} (J:(∃b g,w= .msw b g)\/(∃b g o n,w= .ms b g o n)) (H:aZ P (.sl ag T) [l]=true),zF l w j c=some (c8 ag T [],[(j,c,w)]):=by
  intro ag T w J H;rcases Lf H with ⟨k,rfl,rfl,rfl⟩|⟨t,rfl,I⟩
  ·rcases J with ⟨b,g,rfl⟩|⟨b,g,o,n,rfl⟩<;>rfl
  ·rw[bU I];rcases J with ⟨b,g,rfl⟩|⟨b,g,o,n,rfl⟩
   ·simp only[zF];rw[dS];exact⟨nl.2 Ty.size_pos,rfl⟩
   ·simp only[zF];rw[dS];exact⟨nl.2 Ty.size_pos,rfl⟩
 unfold Kn at h;split at h
 ·rename_i k k' x;rw[bP]at h;obtain⟨K,h⟩:=h;obtain rfl:=ya h;obtain rfl:=qK.1 K;rw[(Av H).1 _ rfl];refine⟨.lit (.int k x),?_,.inl ⟨_,_,rfl,rfl⟩⟩;simp only[KV.down,zF];rw[dS];exact⟨K,rfl⟩
 ·obtain rfl:=ya h;rw[(Av H).2.1 rfl];exact⟨_,rfl,.inr (.inl ⟨_,rfl,rfl⟩)⟩
 ·obtain rfl:=ya h;rw[(Av H).2.2 rfl];exact⟨_,rfl,.inr (.inr (.inl ⟨_,rfl,rfl⟩))⟩
 ·rename_i ag T;obtain rfl:=ya h;refine⟨c8 ag T [],?_,.inr (.inr (.inr ⟨_,_,_,rfl,rfl⟩))⟩;rcases Lf H with ⟨k,rfl,rfl,rfl⟩|⟨t,rfl,I⟩
  ·rfl
  ·rw[bU I];simp only[KV.down,zF];rw[dS];exact⟨nl.2 Ty.size_pos,rfl⟩
 ·rename_i ag T b g;obtain rfl:=ya h;exact⟨c8 ag T [],hole (.inl ⟨_,_,rfl⟩) H,.inr (.inr (.inr ⟨_,_,_,rfl,rfl⟩))⟩
 ·rename_i ag T b g o n;obtain rfl:=ya h;exact⟨c8 ag T [],hole (.inr ⟨_,_,_,_,rfl⟩) H,.inr (.inr (.inr ⟨_,_,_,rfl,rfl⟩))⟩
 ·cases h
theorem Dq: ∀{K:List Ty} {ls:List LK} {vs:List KV} {j c:Nat} {a:List KV×cK},Ok P K ls=true->NK K vs j c=some a->∃qs,MG ls (KV.downs vs) j c=some (qs,a8 a.2)/\cV false a.1 qs
 | [],[],[],j,c,a,H,h=>by
  obtain rfl:=ya h;exact⟨[],rfl,rfl,λj v J=>by cases J⟩
 |T::K,l::ls,v::vs,j,c,a,H,h=>by
  simp only[Ok,yb]at H;simp only[NK]at h;split at h
  ·rename_i a1 O;split at h
   ·rename_i a2 U;obtain rfl:=ya h;obtain⟨q,V,M⟩:=J2 H.1 O;obtain⟨qs,N,I⟩:=Dq H.2 U;refine⟨q::qs,?_,?_,?_⟩
    ·simp only[KV.downs,MG,V,ye,N,yh,j2]
    ·simp only[ym2,I.1]
    ·intro j v J;cases j with
     |zero=>obtain rfl:=ya J;exact⟨q,rfl,M⟩
     |succ j=>exact I.2 j v (by simpa using J)
   ·cases h
  ·cases h
 | [],_::_,_,_,_,_,H,h=>by cases H
 |_::_,[],_,_,_,_,H,h=>by cases H
 | [],_,_::_,_,_,_,_,h=>by cases h
 |_::_,_,[],_,_,_,_,h=>by cases h
theorem n5{t:TypeId}{T:Ty}{ls:List LK}(M:aZ P T ls=true)(K:isAgg? P t=some (eE T))(hs:eE T=false->T.size=1): ∀{H:List (List KV)} {j:Nat} {k:List (den T)->cK->Option R},E8 (aQ R) T H j k=some r->
  ∃xs hs,k xs hs=some r/\Cq P t ls (H.map KV.downs) j=some (xs.map (cF (eE T) T),a8 hs)
 | [],j,k,h=>⟨[],[],h,rfl⟩
 |cs::H,j,k,h=>by
  simp only[E8]at h;split at h
  ·rename_i a N;obtain⟨qs,U,J⟩:=Dq (HJ M) N;obtain⟨x,_,_,h,O⟩:=j6 J h;obtain⟨xs,hs',h,I⟩:=n5 M K hs h;refine⟨x::xs,a.2++hs',h,?_⟩;simp only[yt1,Cq,U,ye,<-O,oE K hs,I,yh,j2]
  ·cases h
theorem oU{n:Nat}: ∀{hs:cK} {k:Option R},rD (aQ R) n hs k=some r->k=some r/\jY n (a8 hs)=true
 | [],k,h=>⟨h,rfl⟩
 |(i,c,v)::hs,k,h=>by
  simp only[rD,real_guard]at h;rw[bP]at h;obtain⟨I,H⟩:=oU h.2;exact⟨I,by simp only[a8,jY,h.1,H,yl3]⟩
theorem qR(e n:Nat)(cs:List KV):chunks e n (KV.downs cs)=(chunks e n cs).map KV.downs:=by
 rw[cC,w8];congr 1;funext l;exact(cC l).symm
theorem Hd(ht:bL P tab){own:Bool}{t tx:TypeId}{rs:Nat}{x y:KV}{k:a9->Option R}(h:D4 (aQ R) tab own t tx mem rs x y k=some r):
  ∃out,k out=some r/\kX P own t tx (aB mem) rs x.down y.down=some out.down:=by
 unfold D4 at h;have h0:=e8 ht h;clear h;obtain⟨et,N,het,hte,h0,hu⟩:=h0;have I:=bT.of (ht _ _ hte);have h:=AP ht h0;clear h0;obtain⟨yr,J,h,hyv⟩:=h;split at h
 ·rename_i e cs;split at h
  ·rename_i T hT;rw[bP]at h;obtain⟨O,h⟩:=h;simp only[yb]at O;obtain⟨⟨⟨⟨⟨⟨g1,g2⟩,g3⟩,g4⟩,g5⟩,g6⟩,g7⟩:=O;obtain⟨⟨ls,hls,hc⟩,hn,M,_⟩:=I.ty T hT;have g7:=HS.1 g7;have hz:=I.zero_eq.1;have ha:=I.ag;rw[g7]at ha M;have U: ∀{V:Option cU} {o:cU},V=some o->(match x.down with
     | .lit (.slice none 0 0)=>guardB own ((Cq P et ls (chunks N.n (aP N.n cs.length) (KV.downs cs)) 0).bind λq=>guardB (Nat.ble 1 q.1.length&&Nat.ble q.1.length bF)
       (some { v := .msw rs 0, rd := J, wr := [(rs, { gen := 0, frz := false, row := .own N.n q.1 q.2 })] }))
     | .msw b g=>(boxO? (aB mem) b g).bind λH=>match H.row with
      | .own e' xs hs=>(Cq P et ls (chunks N.n (aP N.n cs.length) (KV.downs cs)) xs.length).bind λq=>guardB (!H.frz&&Nat.beq N.n e'&&jY xs.length hs&&Nat.ble (xs++q.1).length bF)
        (some {v:= .msw b (g+1),rd:=b::J,wr:= [(b,{gen:=g+1,frz:=false,row:= .own e' (xs++q.1) (hs++q.2)})]})
      |_=>none
     | .ms b g 0 n=>(boxO? (aB mem) b g).bind λH=>match H.row with
      | .own e' xs hs=>(Cq P et ls (chunks N.n (aP N.n cs.length) (KV.downs cs)) n).bind λq=>guardB (!H.frz&&Nat.beq N.n e'&&Nat.ble n xs.length&&jY n hs&&Nat.ble (xs.take n++q.1).length bF)
        (some {v:= .msw b (g+1),rd:=b::J,wr:= [(b,{gen:=g+1,frz:=false,row:= .own e' (xs.take n++q.1) (hs++q.2)})]})
      |_=>none
     |_=>none)=V->kX P own t tx (aB mem) rs x.down y.down=some o:=by
    intro V o hres hm;unfold kX;simp only[het,ye,I.n,I.bytes,hz,hls,hyv,KRow.view];rw[dS];refine⟨?_,?_⟩
    ·simp only[yb];refine⟨⟨⟨⟨⟨⟨g1,wM ht g2⟩,g3⟩,g4⟩,?_⟩,?_⟩,eG g6⟩
     ·rw[(zeroCells I).1,aJ,(zeroCells I).2.2];exact g5
     ·rw[dM hc,hn];exact nb.2 rfl
    ·rw[aJ];exact hm.trans hres
   split at h
   ·rw[bP]at h;obtain⟨ho,h⟩:=h;obtain⟨xs,hs,h,he⟩:=n5 (t:=et) hc ha M h;rw[real_guard,bP]at h;refine⟨_,h.2,U (o:=(a9.mk (.msw rs 0) J [(rs,⟨0,false,.os T xs hs⟩)] []).down) rfl ?_⟩;simp only[KV.down,qR,he,ye];rw[dS];refine⟨ho,?_⟩;rw[dS];refine⟨by rw[ye1];exact h.1,?_⟩;rw[<-hn];rfl
   ·rename_i b g;obtain⟨H,Z,h⟩:=eC h;split at h
    ·rename_i T' xs hs K;obtain⟨zs,hs',h,he⟩:=n5 (t:=et) hc ha M h;split at h
     ·rename_i ys Y;obtain⟨rfl,rfl⟩:=dG Y;rw[bP]at h;obtain⟨O,h⟩:=h;simp only[yb,yq]at O;obtain⟨h,W⟩:=oU h;rw[real_guard,bP]at h;have hd:H.down.row= .own T.size (xs.map (cF (eE T) T)) (a8 hs):=by rw[show H.down.row=H.row.down from rfl,K];rfl
      refine⟨_,h.2,U (o:=(a9.mk (.msw b (g+1)) (b::J) [(b,⟨g+1,false,.os T (xs++zs) (hs++hs')⟩)] []).down) rfl ?_⟩;simp only[KV.down,Z,ye,hd,qR,ye1,he];rw[dS];refine⟨?_,?_⟩
      ·simp only[yb,yq,show H.down.frz=H.frz from rfl];refine⟨⟨⟨O.1,nb.2 hn.symm⟩,W⟩,?_⟩;have h1:=h.1;simp only[ym1]at h1;simp only[ym1,ye1];exact h1
      ·simp only[a9.down,yt1,yi3,cS.down,KRow.down,yg3,j2];rfl
     ·cases h
    ·cases h
   ·rename_i b g o n;rw[real_guard,bP]at h;obtain⟨ho,h⟩:=h;obtain rfl:=nb.1 ho;obtain⟨H,Z,h⟩:=eC h;split at h
    ·rename_i T' xs hs K;obtain⟨zs,hs',h,he⟩:=n5 (t:=et) hc ha M h;split at h
     ·rename_i ys Y;obtain⟨rfl,rfl⟩:=dG Y;rw[bP]at h;obtain⟨O,h⟩:=h;simp only[yb,yq]at O;rw[real_guard,bP]at h;obtain⟨hnl,h⟩:=h;obtain⟨h,W⟩:=oU h;rw[real_guard,bP]at h;have hd:H.down.row= .own T.size (xs.map (cF (eE T) T)) (a8 hs):=by rw[show H.down.row=H.row.down from rfl,K];rfl
      refine⟨_,h.2,U (o:=(a9.mk (.msw b (g+1)) (b::J) [(b,⟨g+1,false,.os T (xs.take n++zs) (hs++hs')⟩)] []).down) rfl ?_⟩;simp only[KV.down,Z,ye,hd,qR,he];rw[dS];refine⟨?_,?_⟩
      ·simp only[yb,yq,show H.down.frz=H.frz from rfl];refine⟨⟨⟨⟨O.1,nb.2 hn.symm⟩,by rw[ye1];exact hnl⟩,W⟩,?_⟩;have h1:=h.1;simp only[ym1,yw2]at h1;simp only[ym1,ye1,yw2];exact h1
      ·simp only[a9.down,yt1,yi3,cS.down,KRow.down,yg3,yv2,j2];rfl
     ·cases h
    ·cases h
   ·cases h
  ·cases h
 ·cases h
theorem Er(ht:bL P tab){t:TypeId}{rs:Nat}{k:a9->Option R}(h:GD tab t rs k=some r): ∃out,k out=some r/\Ge P t rs=some out.down:=by
 unfold GD at h;have K:=e8 ht h;clear h;obtain⟨et,te,J,I,h,hu⟩:=K;have H:=bT.of (ht _ _ I);split at h
 ·rename_i T hT;rw[bP]at h;obtain⟨_,hn,_,_⟩:=H.ty T hT;refine⟨_,h.2,?_⟩;simp only[Ge,J,ye,H.n];rw[dS];refine⟨by rw[<-hn];exact nl.2 Ty.size_pos,?_⟩;rw[<-hn];rfl
 ·cases h
theorem KM(ht:bL P tab){t:TypeId}{rs:Nat}{l c:KV}{ρ:Operand->Option AV}{ol Y:Operand}{k:a9->Option R}(hl:ρ ol=some l.down)(V:ρ Y=some c.down)(h:JF (aQ R) tab rs t l c k=some r):
  ∃out,k out=some r/\Gn P ρ (aB mem) rs t ol Y=some out.down:=by
 unfold JF at h;have h0:=e8 ht h;clear h;obtain⟨et,te,N,J,h,hu⟩:=h0;have H:=bT.of (ht _ _ J);split at h
 ·rename_i k1 n k2 n';split at h
  ·rename_i T hT;rw[bP]at h;obtain⟨Z,h⟩:=h;simp only[yb]at Z;obtain⟨⟨⟨⟨g1,g2⟩,g3⟩,g4⟩,K⟩:=Z;have K:=HS.1 K;obtain⟨⟨ls,M,hc⟩,hn,I,_⟩:=H.ty T hT;have ha:=H.ag;rw[K]at ha I;split at h
   ·rename_i a h1;obtain⟨qs,hq,O⟩:=Dq (HJ hc) h1;split at h
    ·rename_i W;obtain⟨z,_,_,h,hz⟩:=j6 O h;rw[real_guard,bP]at h;refine⟨_,h.2,?_⟩;have U:(d7 te).down.cells=KV.downs (te.zero.map .lit):=by rw[(zeroCells H).1,(zeroCells H).2.1]
     unfold Gn;simp only[N,ye,H.zero_eq.1,hl,V,M,KV.down];rw[dS];refine⟨h.1,?_⟩;rw[U,hq];simp only[ye,<-hz,oE ha I,H.n,H.bytes];rw[dS];refine⟨?_,?_⟩
     ·simp only[yb];exact⟨⟨⟨⟨g1,g2⟩,by rw[aJ,ye1];exact g3⟩,eG g4⟩,by rw[W];rfl⟩
     ·simp only[a9.down,yt1,yi3,cS.down,KRow.down,List.map_replicate,hn];rfl
    ·cases h
   ·cases h
  ·cases h
 ·cases h
theorem qQ: ∀vs:List KV,(KV.downs vs).map AV.cells=(pG vs).map KV.downs
 | []=>rfl
 |v::vs=>by simp only[KV.downs,yt1,pG,dU,qQ vs]
theorem Jb(ht:bL P tab){env:Nat->KV}{tmps:List AV}(he:eJ env tmps){rs:Nat}{t:TypeId}{len:Nat}{H:Array (Nat×Operand)}{k:a9->Option R}
  (h:GG (aQ R) tab env rs t len H k=some r): ∃out,k out=some r/\Ba P (bW tmps) (aB mem) rs t len H=some out.down:=by
 unfold GG at h;have U:=e8 ht h;clear h;obtain⟨et,te,V,K,h,hu⟩:=U;have I:=bT.of (ht _ _ K);have U:=pW he h;clear h;obtain⟨ps,N,h⟩:=U;simp only at h;split at h
 ·rename_i T hT;rw[bP]at h;obtain⟨Y,h⟩:=h;simp only[yb]at Y;obtain⟨⟨⟨⟨⟨⟨⟨g1,g2⟩,g3⟩,g4⟩,g5⟩,g6⟩,g7⟩,M⟩:=Y;have M:=HS.1 M;obtain⟨⟨ls,O,hc⟩,hn,J,_⟩:=I.ty T hT;have Z:=I.ag;rw[M]at Z J;obtain⟨xs,hs,h,W⟩:=n5 (t:=et) hc Z J h;refine⟨_,h,?_⟩;unfold Ba;rw[V];simp only[ye,I.zero_eq.1,I.n,N,O];rw[dS];constructor
  ·simp only[yb];refine⟨⟨⟨⟨⟨⟨oZ g1,g2⟩,g3⟩,g4⟩,?_⟩,?_⟩,g6⟩
   ·have:(d7 te).down::(jI ps).map (·.2)=KV.downs (d7 te::ps.map (·.2)):=by simp[KV.downs,jI,cC]
    rw[this];exact pR g5
   ·rw[dM hc,hn];exact nb.2 rfl
  ·rw[<-FQ,<-qN,qQ,W];simp only[ye];rw[dS];refine⟨by rw[nN];exact eG g7,?_⟩;rw[<-hn];rfl
 ·cases h
theorem AC{ρ:Operand->Option AV}{p:AV->Bool}{x:Operand}{v:AV}(h:ρ x=some v):kM ρ p x=p v:=by unfold kM;rw[h]
theorem NQ(ht:bL P tab)(hC:C1 C tbl){own tk boxed raw vars:Bool}{o:Oper}{env:Nat->KV}{tmps:List AV}(U:eJ env tmps){rs:Nat}{k:a9->Option R}(h:On (aQ R) tab tbl own tk boxed raw vars o env mem rs k=some r):
  ∃out,k out=some r/\Fy P C own tk boxed raw vars o (bW tmps) (aB mem) rs=some out.down:=by
 have plain:bJ own (bW tmps) (aB mem) o.op=false->Ip (aQ R) tab tbl boxed raw vars o env mem rs k=some r->∃out,k out=some r/\Fy P C own tk boxed raw vars o (bW tmps) (aB mem) rs=some out.down:=by
  intro K h;obtain⟨out,h,I⟩:=Ly ht hC U h;exact⟨out,h,by unfold Fy;rw[K];exact I⟩
 have M: ∀{out:a9},bJ own (bW tmps) (aB mem) o.op=true->Fw P own tk o (bW tmps) (aB mem) rs=some out.down->Fy P C own tk boxed raw vars o (bW tmps) (aB mem) rs=some out.down:=by
  intro out K O;unfold Fy;rw[K];exact O
 unfold On at h;split at h
 ·rename_i x I;cases hx:own&&iS x with
  |true=>
   rw[hx]at h;obtain⟨out,h,hm⟩:=Er ht h;exact⟨out,h,M (by rw[I];exact hx) (by unfold Fw;rw[I];exact hm)⟩
  |false=>rw[hx]at h;exact plain (by rw[I];exact hx) h
 ·rename_i x I;cases hx:own&&iS x with
  |true=>
   rw[hx]at h;obtain⟨out,h,hm⟩:=Er ht h;exact⟨out,h,M (by rw[I];exact hx) (by unfold Fw;rw[I];exact hm)⟩
  |false=>rw[hx]at h;exact plain (by rw[I];exact hx) h
 ·rename_i t len parts I;cases own with
  |true=>
   obtain⟨out,h,hm⟩:=Jb ht U h;exact⟨out,h,M (by rw[I];rfl) (by unfold Fw;rw[I];exact hm)⟩
  |false=>exact plain (by rw[I];rfl) h
 ·rename_i t l c I;cases own with
  |true=>
   simp only[yl]at h;obtain⟨l',hl,h,_⟩:=aS U h;obtain⟨c',hc,h,_⟩:=aS U h;obtain⟨out,h,hm⟩:=KM (mem:=mem) ht hl hc h;exact⟨out,h,M (by rw[I];rfl) (by unfold Fw;rw[I];exact hm)⟩
  |false=>exact plain (by rw[I];rfl) h
 ·rename_i t a I;obtain⟨v,Y,h,_⟩:=aS U h;have K:bJ own (bW tmps) (aB mem) o.op=Dj mem v:=by rw[I];show kM _ _ _=_;rw[AC Y,Gc]
  cases O:Dj mem v with
  |true=>
   rw[O]at h K;obtain⟨out,h,hm⟩:=KE ht h;exact⟨out,h,M K (by unfold Fw;rw[I];simp only[Y,ye];exact hm)⟩
  |false=>rw[O]at h K;exact plain K h
 ·rename_i t a x I;obtain⟨v,Y,h,_⟩:=aS U h;have K:bJ own (bW tmps) (aB mem) o.op=Dj mem v:=by rw[I];show kM _ _ _=_;rw[AC Y,Gc]
  cases O:Dj mem v with
  |true=>
   rw[O]at h K;simp only[yl]at h;obtain⟨x',hx,h,_⟩:=aS U h;obtain⟨out,h,hm⟩:=H6 ht h;exact⟨out,h,M K (by unfold Fw;rw[I];simp only[Y,hx,ye];exact hm)⟩
  |false=>rw[O]at h K;exact plain K h
 ·rename_i t x lo hi' mx I;obtain⟨v,Y,h,_⟩:=aS U h;have K:bJ own (bW tmps) (aB mem) o.op=wC mem v:=by rw[I];show kM _ _ _=_;rw[AC Y,Bb]
  cases O:wC mem v with
  |true=>
   rw[O]at h K;simp only[yl]at h;obtain⟨lo,hlo,h⟩:=oF U h;obtain⟨hi2,hhi,h⟩:=oF U h;obtain⟨mx,hmx,h⟩:=oF U h;obtain⟨out,h,hm⟩:=H5 ht h;exact⟨out,h,M K (by unfold Fw;rw[I];simp only[Y,hlo,hhi,hmx,ye];exact hm)⟩
  |false=>rw[O]at h K;exact plain K h
 ·rename_i t x ix I;obtain⟨v,Y,h,_⟩:=aS U h;have K:bJ own (bW tmps) (aB mem) o.op=wC mem v:=by rw[I];show kM _ _ _=_;rw[AC Y,Bb]
  cases O:wC mem v with
  |true=>
   rw[O]at h K;simp only[yl]at h;obtain⟨iv,hiv,h,_⟩:=aS U h;split at h
   ·rename_i kd i;obtain⟨out,h,hm⟩:=In ht h;exact⟨out,h,M K (by unfold Fw;rw[I];simp only[Y,hiv,ye];exact hm)⟩
   ·cases h
  |false=>rw[O]at h K;exact plain K h
 ·rename_i c I;split at h
  ·rename_i N;obtain⟨args,H,h,_⟩:=jL U h;split at h
   ·rename_i t x W _hgn;have K:bJ own (bW tmps) (aB mem) o.op=Lb mem x:=by
     rw[I]
     show(match c.callee,c.args.toList with
      | .builtin .len,[x]=>kM (bW tmps) (He (aB mem)) x
      | .builtin .append,[x,_]=>own||kM (bW tmps) (yM (aB mem)) x
      |_,_=>false)=_
     rw[N];cases hl:c.args.toList with
     |nil=>rw[hl]at H;cases H
     |cons a as=>
      rw[hl]at H;simp only[mG,Cy,KV.downs]at H;obtain⟨w,hw,H⟩:=H;rw[yc]at H;obtain⟨ws,J,e⟩:=H;obtain⟨rfl,rfl⟩:=yx e;cases as with
      |cons b bs=>
       simp only[mG,Cy]at J;obtain⟨_,_,J⟩:=J;rw[yc]at J;obtain⟨_,_,e⟩:=J;cases e
      |nil=>simp only;rw[AC hw,LI]
    cases O:Lb mem x with
    |true=>
     rw[O]at h K;obtain⟨out,h,hm⟩:=Mq ht h;refine⟨out,h,M K ?_⟩;unfold Fw;rw[I];simp only[H,ye,N,KV.downs,W,j4];exact hm
    |false=>rw[O]at h K;exact plain K h
   ·rename_i args _ _ hno _hgn;have Z:=h;obtain⟨out,h,hop'⟩:=Ly ht hC U h;exfalso
    -- the operation answers nothing at other numbers of arguments
    unfold Ip at Z;rw[I]at Z;simp only[N]at Z;obtain⟨args2,V,Z,_⟩:=jL U Z;unfold yW at Z;simp only at Z;split at Z
    ·rename_i t x W _;rw[H]at V;have: ∃y,args= [y]:=by
      have e:=ya V;cases args with
      |nil=>cases e
      |cons y ys=>cases ys with
       |nil=>exact⟨y,rfl⟩
       |cons z zs=>simp[KV.downs]at e
     obtain⟨y,rfl⟩:=this;exact hno _ _ W rfl
    ·cases Z
  ·rename_i N;obtain⟨args,H,h,_⟩:=jL U h;split at h
   ·rename_i t tx x y W _hgn;have K:bJ own (bW tmps) (aB mem) o.op=(own||wC mem x):=by
     rw[I]
     show(match c.callee,c.args.toList with
      | .builtin .len,[x]=>kM (bW tmps) (He (aB mem)) x
      | .builtin .append,[x,_]=>own||kM (bW tmps) (yM (aB mem)) x
      |_,_=>false)=_
     rw[N];cases hl:c.args.toList with
     |nil=>rw[hl]at H;cases H
     |cons a as=>
      rw[hl]at H;simp only[mG,Cy,KV.downs]at H;obtain⟨w,hw,H⟩:=H;rw[yc]at H;obtain⟨ws,J,e⟩:=H;obtain⟨rfl,rfl⟩:=yx e;cases as with
      |nil=>cases J
      |cons b bs=>cases bs with
       |nil=>simp only;rw[AC hw,Bb]
       |cons b' bs=>
        simp only[mG,Cy]at J;obtain⟨_,_,J⟩:=J;rw[yc]at J;obtain⟨_,J,e⟩:=J;rw[Cy]at J;obtain⟨_,_,J⟩:=J;rw[yc]at J;obtain⟨_,_,e2⟩:=J;subst e2;cases e
    cases O:own||wC mem x with
    |true=>
     rw[O]at h K;obtain⟨out,h,hm⟩:=Hd ht h;refine⟨out,h,M K ?_⟩;unfold Fw;rw[I];simp only[H,ye,N,KV.downs,W,j4];exact hm
    |false=>rw[O]at h K;exact plain K h
   ·cases h
  ·rename_i h1 Z;refine plain ?_ h;rw[I]
   show(match c.callee,c.args.toList with
    | .builtin .len,[x]=>kM (bW tmps) (He (aB mem)) x
    | .builtin .append,[x,_]=>own||kM (bW tmps) (yM (aB mem)) x
    |_,_=>false)=_
   split
   ·rename_i e _;exact(h1 e).elim
   ·rename_i e _;exact(Z e).elim
   ·rfl
 ·rename_i g1 g2 g3 g4 g5 g6 g7 g8 g9;refine plain ?_ h;unfold bJ;split<;>first
   |rfl
   |(rename_i e;exact(g1 _ e).elim)
   |(rename_i e;exact(g2 _ e).elim)
   |(rename_i e;exact(g3 _ _ _ e).elim)
   |(rename_i e;exact(g4 _ _ _ e).elim)
   |(rename_i e;exact(g5 _ _ e).elim)
   |(rename_i e;exact(g6 _ _ _ e).elim)
   |(rename_i e;exact(g7 _ _ _ _ _ e).elim)
   |(rename_i e;exact(g8 _ _ _ e).elim)
   |(rename_i e;exact(g9 _ e).elim)
end
end Go.Ab
