import Derived.Test.YtjjjbgicidhpfaaDoorLib21
set_option linter.unusedVariables false
set_option linter.unusedSectionVars false
set_option linter.unusedSimpArgs false
namespace Go.Ab
variable [cS]
section
variable {P:Program} {R:Type} {r:R} {mem:aH} {tab:TypeId->Option TI} {C:cC} {tbl:FuncId->List aG}
theorem wZ(mem:aH)(b:Nat):yU (aD mem) b=Es mem b:=by
 unfold yU Es;rw[ME];cases fD mem b with
 |none=>rfl
 |some y=>cases y with
  |none=>rfl
  |some x=>exact eC x.row
theorem E7(mem:aH)(v:KV):BZ (aD mem) v.down=Bz mem v:=by
 cases v with
 |msw b g=>exact wZ mem b
 |ms b g o n=>exact wZ mem b
 |_=>rfl
theorem SG(mem:aH)(v:KV):L0 (aD mem) v.down=Q4 mem v:=by
 cases v with
 |msw b g=>exact wZ mem b
 |_=>rfl
theorem Ko(mem:aH)(v:KV):LI (aD mem) v.down=H1 mem v:=by
 cases v with
 |ptr b g i c=>exact wZ mem b
 |_=>rfl
theorem Td(c:Nat): ∀hs:dL,Eh c (bI hs)=bI (JE c hs)
 | []=>rfl
 |(i,H,v)::r=>by
  simp only[bI,Eh,JE];cases Nat.beq c H with
  |true=>rfl
  |false=>simp only[yg,bI,Td c r]
theorem nZ(a b:dL):bI (a++b)=bI a++bI b:=by
 induction a with
 |nil=>rfl
 |cons h a H=>simp only[yo3,bI,H]
theorem LB(a b:aH):aD (a++b)=aD a++aD b:=by simp[aD]
noncomputable def U8(P:Program):List Ty->List LK->Bool
 | [],[]=>true
 |T::Ts,l::ls=>bE P T [l]&&U8 P Ts ls
 |_,_=>false
theorem L8: ∀{T:Ty} {ls:List LK},bE P T ls=true->U8 P (dO T) ls=true
 | .cons a b,ls,h=>by
  simp only[bE]at h;split at h
  ·rename_i l ls;simp only[yc]at h;simp only[dO,iM (nb.1 h.1.1),List.singleton_append,U8,yc];exact⟨h.1.2,L8 h.2⟩
  ·cases h
 | .int k,ls,h=>one rfl h
 | .bool,ls,h=>one rfl h
 | .str,ls,h=>one rfl h
 | .sl ag T,ls,h=>one rfl h
 where
 one {T:Ty} {ls:List LK} (H:T.size=1) (h:bE P T ls=true):U8 P (dO T) ls=true:=by
  obtain⟨l,rfl⟩:=FG H h;rw[iM H];simp only[U8,h,yj1]
theorem Sg{T:Ty}{u:Value}(h:kX T (.lit u)=true):T.flat=true:=by
 cases T<;>first|rfl|(cases u<;>cases h)
theorem Jt(ag:Bool)(T:Ty)(xs:List (den T)):dG (eJ ag T xs)=some (KRow.ts false ag T xs).down:=by
 cases H:bD ag T with
 |true=>obtain⟨rfl,kk,rfl⟩:=aS.1 H;rfl
 |false=>
  rw[cO H,KRow.down_sl H];simp only[dG];rw[e9];exact⟨nl.2 Ty.size_pos,rfl⟩
theorem Qw{tk:Bool}{i c:Nat}{v:KV}{hs:dL}{nb:Nat}{k:KV->dL->List KRow->Option R}{xs:List PV}{p q:PV}{l:LK}{T:Ty}(hc:bE P T [l]=true)(M:kX T v=true)
  (W:xs[i]?=some p) (V:p.cells[c]?=some q) (H:nA true v q) (h:E6 (aZ R) tk i c v hs nb k=some r):
  ∃a hs' rows,k a hs' rows=some r/\qZ tk xs i c l (bI hs) nb=some (a.down,bI hs',rows.map KRow.down):=by
 unfold E6 at h;unfold qZ;simp only[W,V,ya,z6];cases hf:oZ c hs with
 |some hh=>
  rw[hf]at h;simp only[real_guard]at h;rw[cJ]at h;refine⟨_,_,_,h.2,?_⟩;simp only[yl];rw[e9];exact⟨h.1,rfl⟩
 |none=>
  rw[hf]at h;simp only[Option.map_none]at h⊢
  have J:=wP hc;simp only[yn3,List.all_nil,ya4]at J;split at h
  ·rename_i u;rw[J,Sg M];refine⟨_,_,_,h,?_⟩;simp only[yh,y5 hc M H,yl];rfl
  ·rename_i β ag U N;rw[cJ]at h;cases T with
   |sl O T2=>
    rw[J];refine⟨_,_,_,h.2,?_⟩;show guardB tk _=_;rw[e9];refine⟨h.1,?_⟩;have K:q=eJ ag U N:=by
     rcases H with ⟨_,_,e,_⟩|⟨_,e,_⟩|⟨_,e,_⟩|⟨_,_,_,e,rfl⟩<;>cases e
     rfl
    rw[K,Jt];rfl
   |_=>cases M
  ·cases h
theorem F1{tk:Bool}{i:Nat}{xs:List PV}{p:PV}(W:xs[i]?=some p): ∀{vs:List KV} {N:List Ty} {ls:List LK} {c:Nat} {hs:dL} {nb:Nat} {k:List KV->dL->List KRow->Option R},
  U8 P N ls=true->a9 N vs=true->(∀(j:Nat) (v:KV),vs[j]?=some v->∃q,p.cells[c+j]?=some q/\nA true v q)->Hm (aZ R) tk i vs c hs nb k=some r->
   ∃as hs' rows,k as hs' rows=some r/\rX tk xs i ls c (bI hs) nb=some (KV.downs as,bI hs',rows.map KRow.down)
 | [],[],[],c,hs,nb,k,hc,H,K,h=>⟨[],hs,[],h,rfl⟩
 |v::vs,T::N,l::ls,c,hs,nb,k,hc,H,K,h=>by
  simp only[U8,yc]at hc;simp only[a9,yc]at H;obtain⟨q,M,U⟩:=K 0 v rfl;rw[ya2]at M;simp only[Hm]at h;obtain⟨a,Z,rows,h,hr⟩:=Qw hc.1 H.1 W M U h
  obtain⟨as,O,J,h,V⟩:=F1 W (c:=c+1) hc.2 H.2 (λj w Y=>by
   obtain⟨q,h1,h2⟩:=K (j+1) w (by simpa using Y)
   exact⟨q,by rw[show c+1+j=c+(j+1) by omega];exact h1,h2⟩) h
  refine⟨a::as,O,rows++J,h,?_⟩;simp only[rX,hr,ya,ym1,V,yl,KV.downs,yv3]
 | [],_::_,_,_,_,_,_,hc,H,K,h=>by cases H
 |_::_,[],_,_,_,_,_,hc,H,K,h=>by cases H
 | [],[],_::_,_,_,_,_,hc,H,K,h=>by cases hc
 |_::_,_::_,[],_,_,_,_,hc,H,K,h=>by cases hc
theorem vV: ∀rows:List KRow,fU (rows.map KRow.down)=aD (vF rows)
 | []=>rfl
 |r::rs=>by
  have H:=vV rs;simp only[yl2,fU,vF,H];rfl
theorem KS(b:Nat)(H:dW)(T:Ty)(xs:List (den T))(v:KV)(hs:dL)(rows:List KRow):
  (Pv b H T xs v hs rows).down=Dj b T.size H.down (xs.map (c9 (gF T) T)) v.down (bI hs,rows.map KRow.down):=by
 cases rows with
 |nil=>rfl
 |cons r rs=>
  show dY.mk _ _ _ (aD (vF (r::rs)))=_;rw[<-vV];rfl
theorem O4(ht:b9 P tab){tk:Bool}{t:TypeId}{a:KV}{k:bK->Option R}(h:Pa (aZ R) tab tk t mem a k=some r): ∃out,k out=some r/\Eb P tk t (aD mem) a.down=some out.down:=by
 unfold Pa at h;split at h
 ·rename_i ti V;have H:=cH.of (ht _ _ V);split at h
  ·rename_i b g i c;obtain⟨bx,O,h⟩:=gE h;split at h
   ·rename_i T xs hs N;split at h
    ·rename_i T' Y;simp only[real_getN]at h;rw[Hx]at h;obtain⟨x,hx,h⟩:=h;rw[cJ]at h;obtain⟨hl,h⟩:=h;obtain⟨⟨ls,M,hc⟩,hn,hag,_⟩:=H.ty T' Y;have hp:(xs.map (c9 (gF T) T))[i]?=some (c9 (gF T) T x):=by rw[yh1,hx];rfl
     have hq: ∀(j:Nat) (v:KV),(((cellsOf true T x).drop c).take ti.n)[j]?=some v->∃q,(c9 (gF T) T x).cells[c+j]?=some q/\nA true v q:=by
      intro j v K;rw[yy1]at K;split at K
      ·rw[yg1]at K;rw[cU];exact(mL (β:=true) (x:=x)).2 _ v K
      ·cases K
     have hd:bx.down.row= .own T.size (xs.map (c9 (gF T) T)) (bI hs):=by rw[show bx.down.row=bx.row.down from rfl,N];rfl
     obtain⟨as,hs',rows,h,hr⟩:=F1 hp (L8 hc) hl hq h;cases U:ti.ag with
     |true=>
      rw[U]at h;simp only[yh]at h;refine⟨_,h,?_⟩;have J:=H.ag;rw[U]at J;simp only[KV.down,Eb,O,ya,hd,J,M,H.n];rw[e9];refine⟨nb.2 (by rw[e6 hc,hn]),?_⟩;rw[e8,hr,yl,KS];rfl
     |false=>
      rw[U]at h;simp only[yg]at h;have J:=H.ag;rw[U]at J;obtain⟨l,W,rfl⟩:=gO J M;split at h
      ·rename_i v;refine⟨_,h,?_⟩;simp only[KV.down,Eb,O,ya,hd,J,W];rw[e8];simp only[rX,Hx]at hr;obtain⟨q,Z,hr⟩:=hr;rw[yf]at hr;obtain⟨q2,hq2,hr⟩:=hr;obtain rfl:=yb hq2;simp only[ys1,Prod.mk.injEq,KV.downs,List.cons.injEq,and_true]at hr;obtain⟨e1,e2,e3⟩:=hr;rw[Z,yl,KS,e1,<-e2,<-e3]
      ·cases h
    ·cases h
   ·cases h
  ·cases h
 ·cases h
theorem Ci{i c:Nat}{hs:dL}{k:dL->Option R}(h:IN (aZ R) i c hs k=some r): ∃hs',k hs'=some r/\GJ i c (bI hs)=some (bI hs'):=by
 unfold IN at h;unfold GJ;rw[z6];cases hf:oZ c hs with
 |none=>rw[hf]at h;exact⟨hs,h,rfl⟩
 |some q=>
  rw[hf]at h;simp only[real_guard]at h;rw[cJ]at h;obtain⟨H,h⟩:=h;rw[cJ]at h;refine⟨_,h.2,?_⟩;simp only[yl];rw[e9];rw[Td,z6,vX,<-A8,yc];exact⟨⟨h.1,H⟩,rfl⟩
theorem Qr(ag:Bool)(T:Ty)(xs:List (den T)):Du (eJ ag T xs)=some (eJ ag T []):=by
 cases H:bD ag T with
 |true=>obtain⟨rfl,kk,rfl⟩:=aS.1 H;rfl
 |false=>
  rw[cO H,cO H];simp only[Du];rw[e9];exact⟨nl.2 Ty.size_pos,rfl⟩
theorem LC{u v:Value}(h:HE u v=true):nA false (.lit v) (.lit v):=by
 unfold HE at h;split at h
 ·exact .inl ⟨_,_,rfl,rfl⟩
 ·exact .inr (.inl ⟨_,rfl,rfl⟩)
 ·exact .inr (.inr (.inl ⟨_,rfl,rfl⟩))
 ·cases h
theorem P6(ag:Bool)(T:Ty)(xs:List (den T)):(∃k H,eJ ag T xs= .ints k H)\/∃e H,eJ ag T xs= .sl e H:=by
 cases J:bD ag T with
 |true=>obtain⟨rfl,K,rfl⟩:=aS.1 J;exact .inl ⟨K,xs,rfl⟩
 |false=>exact .inr ⟨_,_,cO J xs⟩
theorem GI{t:TypeId}{m:aO}{b g i c e:Nat}{J:bV}{xs:List PV}{hs hs':List (Nat×Nat×AV)}{p y:PV}{x:AV}(V:boxO? m b g=some J)(hr:J.row= .own e xs hs)(hn:k8 P t=some 1)(hf:J.frz=false)(U:Mz x=true)
  (N: ∀v,x≠ .lit v) (W:xs[i]?=some p) (O:p.cells[c]?=some y) (M:(∃k H,y= .ints k H)\/∃e H,y= .sl e H) (K:GJ i c hs=some hs'):
  oR P t m (.ptr b g i c) x=some {v:= .lit undef,rd:= [b],wr:= [(b,{J with row:= .own e xs ((i,c,x)::hs')})]}:=by
 simp only[oR,V,hr,hn,hf,U,ya,W,O];rw[e9];refine⟨rfl,?_⟩;rcases M with ⟨k,H,rfl⟩|⟨e',H,rfl⟩<;>cases x<;>first|exact absurd rfl (N _)|simp only[K,yl]
theorem Qm{t:TypeId}{m:aO}{b g i c e:Nat}{J:bV}{xs:List PV}{hs hs':List (Nat×Nat×AV)}{p y N:PV}(U:boxO? m b g=some J)(hr:J.row= .own e xs hs)(hn:k8 P t=some 1)(hf:J.frz=false)
  (V:xs[i]?=some p) (O:p.cells[c]?=some y) (M:(∃k H,y= .ints k H)\/∃e H,y= .sl e H) (W:Du y=some N) (K:GJ i c hs=some hs'):
  oR P t m (.ptr b g i c) (.lit (.slice none 0 0))=some {v:= .lit undef,rd:= [b],wr:= [(b,{J with row:= .own e (xs.set i (lT p c N)) hs'})]}:=by
 simp only[oR,U,hr,hn,hf,ya,V,O];rw[e9];refine⟨rfl,?_⟩;rcases M with ⟨k,H,rfl⟩|⟨e',H,rfl⟩<;>simp only[W,ya,K,yl]
theorem NB(ht:b9 P tab){t:TypeId}{a x:KV}{k:bK->Option R}(h:Mw (aZ R) tab t mem a x k=some r): ∃out,k out=some r/\oR P t (aD mem) a.down x.down=some out.down:=by
 unfold Mw at h;split at h
 ·rename_i ti hti;have hok:=cH.of (ht _ _ hti);split at h
  ·rename_i b g i c;obtain⟨bx,N,h⟩:=gE h;split at h
   ·rename_i T xs hs hrow;rw[cJ]at h;obtain⟨hg,h⟩:=h;simp only[yc,yx]at hg;obtain⟨⟨g1,g2⟩,g3⟩:=hg;simp only[real_getN]at h;rw[Hx]at h;obtain⟨p,hp,h⟩:=h;have hn:k8 P t=some 1:=by rw[hok.n,nb.1 g1]
    have hd:bx.down.row= .own T.size (xs.map (c9 (gF T) T)) (bI hs):=by rw[show bx.down.row=bx.row.down from rfl,hrow];rfl
    have M:(xs.map (c9 (gF T) T))[i]?=some (c9 (gF T) T p):=by rw[yh1,hp];rfl
    split at h
    ·rename_i u H;rw[bH]at H;obtain⟨y,hy,O⟩:=(dZ.of false T p).2 _ _ H;have J:y= .lit u:=by
      rcases O with ⟨_,_,e,rfl⟩|⟨_,e,rfl⟩|⟨_,e,rfl⟩|⟨_,_,_,e,_⟩<;>cases e<;>rfl
     subst J;split at h
     ·rename_i v;rw[cJ]at h;obtain⟨U,h⟩:=h;simp only[yc]at U;have Y:c<(aV T p).length:=(yd.1 hy).1;rw[y6]at h;obtain⟨z,_,_,h,hz⟩:=oA ((dZ.of false T p).set (LC U.1) c) h;refine⟨_,h,?_⟩;simp only[KV.down,oR,N,hd,hn,ya,M,cU,hy,show bx.down.frz=bx.frz from rfl,g2];rw[e9];refine⟨sN g3,?_⟩;rw[e9];refine⟨?_,?_⟩
      ·rw[yc,z6,vX,<-A8];exact U
      ·rw[IQ Y hz,P5];rfl
     ·cases h
    ·rename_i β V T' ys H;rw[bH]at H;obtain⟨y,hy,O⟩:=(dZ.of false T p).2 _ _ H;have J:y=eJ V T' ys:=by
      rcases O with ⟨_,_,e,_⟩|⟨_,e,_⟩|⟨_,e,_⟩|⟨_,_,_,e,rfl⟩<;>cases e
      rfl
     have W:(c9 (gF T) T p).cells[c]?=some y:=by rw[cU];exact hy
     have Z:(∃k ys,y= .ints k ys)\/∃e ys,y= .sl e ys:=by rw[J];exact P6 _ _ _
     split at h
     ·obtain⟨hs',h,K⟩:=Ci h;have Y:c<(aV T p).length:=(yd.1 hy).1;rw[y6]at h;obtain⟨z,_,_,h,hz⟩:=oA ((dZ.of false T p).set (v:= .tsl false V T' []) (q:=eJ V T' []) (.inr (.inr (.inr ⟨_,_,_,rfl,rfl⟩))) c) h;refine⟨_,h,?_⟩;have:=Qm (P:=P) N hd hn g2 M W Z (by rw[J];exact Qr _ _ _) K;rw[IQ Y hz,P5]at this;exact this
     ·obtain⟨hs',h,K⟩:=Ci h;exact⟨_,h,GI (P:=P) N hd hn g2 (sN g3) (by simp[KV.down]) M W Z K⟩
     ·obtain⟨hs',h,K⟩:=Ci h;exact⟨_,h,GI (P:=P) N hd hn g2 (sN g3) (by simp[KV.down]) M W Z K⟩
     ·cases h
    ·cases h
   ·cases h
  ·cases h
 ·cases h
theorem RL(ht:b9 P tab){t:TypeId}{x:KV}{k:bK->Option R}(h:Un tab t mem x k=some r): ∃out,k out=some r/\Ox P t (aD mem) x.down=some out.down:=by
 unfold Un at h;split at h
 ·rename_i ti J;have K:=cH.of (ht _ _ J);split at h
  ·rename_i et b g O;obtain⟨N,M,h⟩:=gE h;split at h
   ·rename_i T xs hs H;refine⟨_,h,?_⟩;simp only[KV.down,Ox,K.under_sl O,M,yl,show N.down.row=N.row.down from rfl,rB,H];rfl
   ·cases h
  ·cases h
 ·cases h
theorem NA(ht:b9 P tab){t:TypeId}{x:KV}{i:Int}{k:bK->Option R}(h:Ls (aZ R) tab t mem x i k=some r): ∃out,k out=some r/\vL P t (aD mem) x.down i=some out.down:=by
 unfold Ls at h;have U:=iK ht h;clear h;obtain⟨et,te,O,M,h,N⟩:=U;have J:=cH.of (ht _ _ M);split at h
 ·rename_i b g o n;obtain⟨K,H,h⟩:=gE h;rw[cJ]at h;obtain⟨hn,h⟩:=h;simp only[real_guard]at h;rw[cJ]at h;refine⟨_,h.2,?_⟩;simp only[vL,KV.down,N,J.n,ya,H,show K.down.row=K.row.down from rfl,Bp,e9,hn,h.1,yq1];exact⟨by simp,rfl⟩
 ·rename_i b g;obtain⟨K,H,h⟩:=gE h;rw[cJ]at h;obtain⟨hn,h⟩:=h;simp only[real_guard]at h;rw[cJ]at h;refine⟨_,h.2,?_⟩;simp only[vL,KV.down,N,J.n,ya,H,show K.down.row=K.row.down from rfl,Bp,rB,e9,hn,h.1,yq1];exact⟨by simp,rfl⟩
 ·cases h
theorem NN(ht:b9 P tab){t:TypeId}{x:KV}{O U V:Option Int}{k:bK->Option R}(h:LQ (aZ R) tab t mem x O U V k=some r): ∃out,k out=some r/\vK P t (aD mem) x.down O U V=some out.down:=by
 unfold LQ at h;have Z:=iK ht h;clear h;obtain⟨et,te,Y,M,h,W⟩:=Z;have J:=cH.of (ht _ _ M);split at h
 ·rename_i b g o n;obtain⟨K,H,h⟩:=gE h;rw[cJ]at h;obtain⟨hn,h⟩:=h;obtain⟨q,N,h⟩:=gQ h;refine⟨_,h,?_⟩;simp only[vK,KV.down,W,J.n,ya,H,show K.down.row=K.row.down from rfl,Bp,e9,hn,N,yl];exact⟨trivial,rfl⟩
 ·rename_i b g;obtain⟨K,H,h⟩:=gE h;rw[cJ]at h;obtain⟨hn,h⟩:=h;obtain⟨q,N,h⟩:=gQ h;refine⟨_,h,?_⟩;simp only[vK,KV.down,W,J.n,ya,H,show K.down.row=K.row.down from rfl,Bp,rB,e9,hn,N,yl];exact⟨trivial,rfl⟩
 ·cases h
theorem Q5{ag:Bool}{T:Ty}{l:LK}(hc:bE P (.sl ag T) [l]=true):(∃k,l= .ints k/\ag=false/\T= .int k)\/(∃t,l= .sl t T.size/\bD ag T=false):=by
 simp only[bE]at hc;split at hc
 ·rename_i k H;obtain rfl:=(yd1 H).1;cases ag with
  |true=>simp at hc
  |false=>
   cases T with
   |int k'=>simp only at hc;obtain rfl:=yR.1 hc;exact .inl ⟨k,rfl,rfl,rfl⟩
   |_=>simp at hc
 ·rename_i t e H;obtain rfl:=(yd1 H).1;simp only[yc,yx]at hc;obtain rfl:=nb.1 hc.1.1.1.1;exact .inr ⟨t,rfl,hc.1.1.1.2⟩
 ·cases hc
theorem Fs{T:Ty}{l:LK}(hc:bE P T [l]=true):(∀k,T= .int k->l= .int k)/\(T= .bool->l= .bool)/\(T= .str->l= .str):=by
 refine⟨?_,?_,?_⟩
 ·rintro k rfl
  simp only[bE]at hc;split at hc
  ·rename_i k' H;obtain rfl:=(yd1 H).1;rw[yR.1 hc]
  ·cases hc
 ·rintro rfl
  simp only[bE]at hc;split at hc
  ·rename_i H;exact(yd1 H).1
  ·cases hc
 ·rintro rfl
  simp only[bE]at hc;split at hc
  ·rename_i H;exact(yd1 H).1
  ·cases hc
theorem PF{T:Ty}{l:LK}{v:KV}{j c:Nat}{a:KV×dL}(hc:bE P T [l]=true)(h:Qg T v j c=some a):
  ∃q,CK l v.down j c=some (q,bI a.2)/\nA false a.1 q:=by
 have hole: ∀{ag:Bool} {T:Ty} {w:AV} (J:(∃b g,w= .msw b g)\/(∃b g o n,w= .ms b g o n)) (hc:bE P (.sl ag T) [l]=true),CK l w j c=some (eJ ag T [],[(j,c,w)]):=by
  intro ag T w J hc;rcases Q5 hc with ⟨k,rfl,rfl,rfl⟩|⟨t,rfl,H⟩
  ·rcases J with ⟨b,g,rfl⟩|⟨b,g,o,n,rfl⟩<;>rfl
  ·rw[cO H];rcases J with ⟨b,g,rfl⟩|⟨b,g,o,n,rfl⟩
   ·simp only[CK];rw[e9];exact⟨nl.2 Ty.size_pos,rfl⟩
   ·simp only[CK];rw[e9];exact⟨nl.2 Ty.size_pos,rfl⟩
 unfold Qg at h;split at h
 ·rename_i k k' x;rw[cJ]at h;obtain⟨K,h⟩:=h;obtain rfl:=yb h;obtain rfl:=yR.1 K;rw[(Fs hc).1 _ rfl];refine⟨.lit (.int k x),?_,.inl ⟨_,_,rfl,rfl⟩⟩;simp only[KV.down,CK];rw[e9];exact⟨K,rfl⟩
 ·obtain rfl:=yb h;rw[(Fs hc).2.1 rfl];exact⟨_,rfl,.inr (.inl ⟨_,rfl,rfl⟩)⟩
 ·obtain rfl:=yb h;rw[(Fs hc).2.2 rfl];exact⟨_,rfl,.inr (.inr (.inl ⟨_,rfl,rfl⟩))⟩
 ·rename_i ag T;obtain rfl:=yb h;refine⟨eJ ag T [],?_,.inr (.inr (.inr ⟨_,_,_,rfl,rfl⟩))⟩;rcases Q5 hc with ⟨k,rfl,rfl,rfl⟩|⟨t,rfl,H⟩
  ·rfl
  ·rw[cO H];simp only[KV.down,CK];rw[e9];exact⟨nl.2 Ty.size_pos,rfl⟩
 ·rename_i ag T b g;obtain rfl:=yb h;exact⟨eJ ag T [],hole (.inl ⟨_,_,rfl⟩) hc,.inr (.inr (.inr ⟨_,_,_,rfl,rfl⟩))⟩
 ·rename_i ag T b g o n;obtain rfl:=yb h;exact⟨eJ ag T [],hole (.inr ⟨_,_,_,_,rfl⟩) hc,.inr (.inr (.inr ⟨_,_,_,rfl,rfl⟩))⟩
 ·cases h
theorem JK: ∀{M:List Ty} {ls:List LK} {vs:List KV} {j c:Nat} {a:List KV×dL},U8 P M ls=true->Ub M vs j c=some a->∃qs,Rv ls (KV.downs vs) j c=some (qs,bI a.2)/\dZ false a.1 qs
 | [],[],[],j,c,a,hc,h=>by
  obtain rfl:=yb h;exact⟨[],rfl,rfl,λj v J=>by cases J⟩
 |T::M,l::ls,v::vs,j,c,a,hc,h=>by
  simp only[U8,yc]at hc;simp only[Ub]at h;split at h
  ·rename_i a1 U;split at h
   ·rename_i a2 O;obtain rfl:=yb h;obtain⟨q,V,N⟩:=PF hc.1 U;obtain⟨qs,K,H⟩:=JK hc.2 O;refine⟨q::qs,?_,?_,?_⟩
    ·simp only[KV.downs,Rv,V,ya,K,yl,nZ]
    ·simp only[yw,H.1]
    ·intro j v J;cases j with
     |zero=>obtain rfl:=yb J;exact⟨q,rfl,N⟩
     |succ j=>exact H.2 j v (by simpa using J)
   ·cases h
  ·cases h
 | [],_::_,_,_,_,_,hc,h=>by cases hc
 |_::_,[],_,_,_,_,hc,h=>by cases hc
 | [],_,_::_,_,_,_,_,h=>by cases h
 |_::_,_,[],_,_,_,_,h=>by cases h
theorem sZ{t:TypeId}{T:Ty}{ls:List LK}(hc:bE P T ls=true)(M:isAgg? P t=some (gF T))(hs:gF T=false->T.size=1): ∀{H:List (List KV)} {j:Nat} {k:List (den T)->dL->Option R},Jz (aZ R) T H j k=some r->
  ∃xs hs,k xs hs=some r/\GZ P t ls (H.map KV.downs) j=some (xs.map (c9 (gF T) T),bI hs)
 | [],j,k,h=>⟨[],[],h,rfl⟩
 |cs::H,j,k,h=>by
  simp only[Jz]at h;split at h
  ·rename_i a O;obtain⟨qs,U,K⟩:=JK (L8 hc) O;obtain⟨x,_,_,h,N⟩:=oA K h;obtain⟨xs,hs',h,J⟩:=sZ hc M hs h;refine⟨x::xs,a.2++hs',h,?_⟩;simp only[yl2,GZ,U,ya,<-N,sW M hs,J,yl,nZ]
  ·cases h
theorem wE{n:Nat}: ∀{hs:dL} {k:Option R},zV (aZ R) n hs k=some r->k=some r/\nV n (bI hs)=true
 | [],k,h=>⟨h,rfl⟩
 |(i,c,v)::hs,k,h=>by
  simp only[zV,real_guard]at h;rw[cJ]at h;obtain⟨H,J⟩:=wE h.2;exact⟨H,by simp only[bI,nV,h.1,J,yj1]⟩
theorem Ah(e n:Nat)(cs:List KV):chunks e n (KV.downs cs)=(chunks e n cs).map KV.downs:=by
 rw[dD,Ce];congr 1;funext l;exact(dD l).symm
theorem L9(ht:b9 P tab){own:Bool}{t tx:TypeId}{rs:Nat}{x y:KV}{k:bK->Option R}(h:JM (aZ R) tab own t tx mem rs x y k=some r):
  ∃out,k out=some r/\pF P own t tx (aD mem) rs x.down y.down=some out.down:=by
 unfold JM at h;have h0:=iK ht h;clear h;obtain⟨et,O,het,hte,h0,hu⟩:=h0;have J:=cH.of (ht _ _ hte);have h:=FX ht h0;clear h0;obtain⟨yr,K,h,hyv⟩:=h;split at h
 ·rename_i e cs;split at h
  ·rename_i T hT;rw[cJ]at h;obtain⟨U,h⟩:=h;simp only[yc]at U;obtain⟨⟨⟨⟨⟨⟨g1,g2⟩,g3⟩,g4⟩,g5⟩,g6⟩,g7⟩:=U;obtain⟨⟨ls,hls,hc⟩,hn,N,_⟩:=J.ty T hT;have g7:=MP.1 g7;have hz:=J.zero_eq.1;have ha:=J.ag;rw[g7]at ha N
   have W: ∀{V:Option dY} {o:dY},V=some o->(match x.down with
     | .lit (.slice none 0 0)=>guardB own ((GZ P et ls (chunks O.n (aY O.n cs.length) (KV.downs cs)) 0).bind λq=>guardB (Nat.ble 1 q.1.length&&Nat.ble q.1.length bU)
       (some { v := .msw rs 0, rd := K, wr := [(rs, { gen := 0, frz := false, row := .own O.n q.1 q.2 })] }))
     | .msw b g=>(boxO? (aD mem) b g).bind λH=>match H.row with
      | .own e' xs hs=>(GZ P et ls (chunks O.n (aY O.n cs.length) (KV.downs cs)) xs.length).bind λq=>guardB (!H.frz&&Nat.beq O.n e'&&nV xs.length hs&&Nat.ble (xs++q.1).length bU)
        (some {v:= .msw b (g+1),rd:=b::K,wr:= [(b,{gen:=g+1,frz:=false,row:= .own e' (xs++q.1) (hs++q.2)})]})
      |_=>none
     | .ms b g 0 n=>(boxO? (aD mem) b g).bind λH=>match H.row with
      | .own e' xs hs=>(GZ P et ls (chunks O.n (aY O.n cs.length) (KV.downs cs)) n).bind λq=>guardB (!H.frz&&Nat.beq O.n e'&&Nat.ble n xs.length&&nV n hs&&Nat.ble (xs.take n++q.1).length bU)
        (some {v:= .msw b (g+1),rd:=b::K,wr:= [(b,{gen:=g+1,frz:=false,row:= .own e' (xs.take n++q.1) (hs++q.2)})]})
      |_=>none
     |_=>none)=V->pF P own t tx (aD mem) rs x.down y.down=some o:=by
    intro V o hres hm;unfold pF;simp only[het,ya,J.n,J.bytes,hz,hls,hyv,KRow.view];rw[e9];refine⟨?_,?_⟩
    ·simp only[yc];refine⟨⟨⟨⟨⟨⟨g1,Cx ht g2⟩,g3⟩,g4⟩,?_⟩,?_⟩,gC g6⟩
     ·rw[(zeroCells J).1,aN,(zeroCells J).2.2];exact g5
     ·rw[e6 hc,hn];exact nb.2 rfl
    ·rw[aN];exact hm.trans hres
   split at h
   ·rw[cJ]at h;obtain⟨ho,h⟩:=h;obtain⟨xs,hs,h,he⟩:=sZ (t:=et) hc ha N h;rw[real_guard,cJ]at h;refine⟨_,h.2,W (o:=(bK.mk (.msw rs 0) K [(rs,⟨0,false,.os T xs hs⟩)] []).down) rfl ?_⟩;simp only[KV.down,Ah,he,ya];rw[e9];refine⟨ho,?_⟩;rw[e9];refine⟨by rw[ym1];exact h.1,?_⟩;rw[<-hn];rfl
   ·rename_i b g;obtain⟨H,hbx,h⟩:=gE h;split at h
    ·rename_i T' xs hs M;obtain⟨zs,hs',h,he⟩:=sZ (t:=et) hc ha N h;split at h
     ·rename_i ys Z;obtain⟨rfl,rfl⟩:=eT Z;rw[cJ]at h;obtain⟨U,h⟩:=h;simp only[yc,yx]at U;obtain⟨h,Y⟩:=wE h;rw[real_guard,cJ]at h;have hd:H.down.row= .own T.size (xs.map (c9 (gF T) T)) (bI hs):=by rw[show H.down.row=H.row.down from rfl,M];rfl
      refine⟨_,h.2,W (o:=(bK.mk (.msw b (g+1)) (b::K) [(b,⟨g+1,false,.os T (xs++zs) (hs++hs')⟩)] []).down) rfl ?_⟩;simp only[KV.down,hbx,ya,hd,Ah,ym1,he];rw[e9];refine⟨?_,?_⟩
      ·simp only[yc,yx,show H.down.frz=H.frz from rfl];refine⟨⟨⟨U.1,nb.2 hn.symm⟩,Y⟩,?_⟩;have h1:=h.1;simp only[yi]at h1;simp only[yi,ym1];exact h1
      ·simp only[bK.down,yl2,yf4,dW.down,KRow.down,yv3,nZ];rfl
     ·cases h
    ·cases h
   ·rename_i b g o n;rw[real_guard,cJ]at h;obtain⟨ho,h⟩:=h;obtain rfl:=nb.1 ho;obtain⟨H,hbx,h⟩:=gE h;split at h
    ·rename_i T' xs hs M;obtain⟨zs,hs',h,he⟩:=sZ (t:=et) hc ha N h;split at h
     ·rename_i ys Z;obtain⟨rfl,rfl⟩:=eT Z;rw[cJ]at h;obtain⟨U,h⟩:=h;simp only[yc,yx]at U;rw[real_guard,cJ]at h;obtain⟨hnl,h⟩:=h;obtain⟨h,Y⟩:=wE h;rw[real_guard,cJ]at h;have hd:H.down.row= .own T.size (xs.map (c9 (gF T) T)) (bI hs):=by rw[show H.down.row=H.row.down from rfl,M];rfl
      refine⟨_,h.2,W (o:=(bK.mk (.msw b (g+1)) (b::K) [(b,⟨g+1,false,.os T (xs.take n++zs) (hs++hs')⟩)] []).down) rfl ?_⟩;simp only[KV.down,hbx,ya,hd,Ah,he];rw[e9];refine⟨?_,?_⟩
      ·simp only[yc,yx,show H.down.frz=H.frz from rfl];refine⟨⟨⟨⟨U.1,nb.2 hn.symm⟩,by rw[ym1];exact hnl⟩,Y⟩,?_⟩;have h1:=h.1;simp only[yi,yj2]at h1;simp only[yi,ym1,yj2];exact h1
      ·simp only[bK.down,yl2,yf4,dW.down,KRow.down,yv3,yp3,nZ];rfl
     ·cases h
    ·cases h
   ·cases h
  ·cases h
 ·cases h
theorem Ip(ht:b9 P tab){t:TypeId}{rs:Nat}{k:bK->Option R}(h:MI tab t rs k=some r): ∃out,k out=some r/\KH P t rs=some out.down:=by
 unfold MI at h;have M:=iK ht h;clear h;obtain⟨et,te,J,K,h,hu⟩:=M;have H:=cH.of (ht _ _ K);split at h
 ·rename_i T hT;rw[cJ]at h;obtain⟨_,hn,_,_⟩:=H.ty T hT;refine⟨_,h.2,?_⟩;simp only[KH,J,ya,H.n];rw[e9];refine⟨by rw[<-hn];exact nl.2 Ty.size_pos,?_⟩;rw[<-hn];rfl
 ·cases h
theorem O6(ht:b9 P tab){t:TypeId}{rs:Nat}{l c:KV}{ρ:Operand->Option AV}{ol Z:Operand}{k:bK->Option R}(hl:ρ ol=some l.down)(W:ρ Z=some c.down)(h:Qz (aZ R) tab rs t l c k=some r):
  ∃out,k out=some r/\Kh P ρ (aD mem) rs t ol Z=some out.down:=by
 unfold Qz at h;have h0:=iK ht h;clear h;obtain⟨et,te,K,O,h,hu⟩:=h0;have H:=cH.of (ht _ _ O);split at h
 ·rename_i k1 n k2 n';split at h
  ·rename_i T hT;rw[cJ]at h;obtain⟨hg,h⟩:=h;simp only[yc]at hg;obtain⟨⟨⟨⟨g1,g2⟩,g3⟩,g4⟩,Y⟩:=hg;have Y:=MP.1 Y;obtain⟨⟨ls,N,hc⟩,hn,J,_⟩:=H.ty T hT;have ha:=H.ag;rw[Y]at ha J;split at h
   ·rename_i a h1;obtain⟨qs,hq,V⟩:=JK (L8 hc) h1;split at h
    ·rename_i M;obtain⟨z,_,_,h,hz⟩:=oA V h;rw[real_guard,cJ]at h;refine⟨_,h.2,?_⟩;have U:(fW te).down.cells=KV.downs (te.zero.map .lit):=by rw[(zeroCells H).1,(zeroCells H).2.1]
     unfold Kh;simp only[K,ya,H.zero_eq.1,hl,W,N,KV.down];rw[e9];refine⟨h.1,?_⟩;rw[U,hq];simp only[ya,<-hz,sW ha J,H.n,H.bytes];rw[e9];refine⟨?_,?_⟩
     ·simp only[yc];exact⟨⟨⟨⟨g1,g2⟩,by rw[aN,ym1];exact g3⟩,gC g4⟩,by rw[M];rfl⟩
     ·simp only[bK.down,yl2,yf4,dW.down,KRow.down,List.map_replicate,hn];rfl
    ·cases h
   ·cases h
  ·cases h
 ·cases h
theorem y0: ∀vs:List KV,(KV.downs vs).map AV.cells=(wA vs).map KV.downs
 | []=>rfl
 |v::vs=>by simp only[KV.downs,yl2,wA,fE,y0 vs]
theorem MT(ht:b9 P tab){env:Nat->KV}{tmps:List AV}(he:gJ env tmps){rs:Nat}{t:TypeId}{len:Nat}{H:Array (Nat×Operand)}{k:bK->Option R}
  (h:LN (aZ R) tab env rs t len H k=some r): ∃out,k out=some r/\FB P (cN tmps) (aD mem) rs t len H=some out.down:=by
 unfold LN at h;have N:=iK ht h;clear h;obtain⟨et,te,M,V,h,hu⟩:=N;have J:=cH.of (ht _ _ V);have N:=wL he h;clear h;obtain⟨ps,Y,h⟩:=N;simp only at h;split at h
 ·rename_i T hT;rw[cJ]at h;obtain⟨Z,h⟩:=h;simp only[yc]at Z;obtain⟨⟨⟨⟨⟨⟨⟨g1,g2⟩,g3⟩,g4⟩,g5⟩,g6⟩,g7⟩,O⟩:=Z;have O:=MP.1 O;obtain⟨⟨ls,U,hc⟩,hn,K,_⟩:=J.ty T hT;have ha:=J.ag;rw[O]at ha K;obtain⟨xs,hs,h,W⟩:=sZ (t:=et) hc ha K h;refine⟨_,h,?_⟩;unfold FB;rw[M];simp only[ya,J.zero_eq.1,J.n,Y,U];rw[e9];constructor
  ·simp only[yc];refine⟨⟨⟨⟨⟨⟨vH g1,g2⟩,g3⟩,g4⟩,?_⟩,?_⟩,g6⟩
   ·have:(fW te).down::(nH ps).map (·.2)=KV.downs (fW te::ps.map (·.2)):=by simp[KV.downs,nH,dD]
    rw[this];exact v7 g5
   ·rw[e6 hc,hn];exact nb.2 rfl
  ·rw[<-KT,<-zP,y0,W];simp only[ya];rw[e9];refine⟨by rw[rT];exact gC g7,?_⟩;rw[<-hn];rfl
 ·cases h
theorem FJ{ρ:Operand->Option AV}{p:AV->Bool}{x:Operand}{v:AV}(h:ρ x=some v):oY ρ p x=p v:=by unfold oY;rw[h]
theorem Th(ht:b9 P tab)(hC:I2 C tbl){own tk boxed raw vars:Bool}{o:Oper}{env:Nat->KV}{tmps:List AV}(V:gJ env tmps){rs:Nat}{k:bK->Option R}(h:UG (aZ R) tab tbl own tk boxed raw vars o env mem rs k=some r):
  ∃out,k out=some r/\Kf P C own tk boxed raw vars o (cN tmps) (aD mem) rs=some out.down:=by
 have plain:b7 own (cN tmps) (aD mem) o.op=false->O0 (aZ R) tab tbl boxed raw vars o env mem rs k=some r->∃out,k out=some r/\Kf P C own tk boxed raw vars o (cN tmps) (aD mem) rs=some out.down:=by
  intro M h;obtain⟨out,h,J⟩:=QH ht hC V h;exact⟨out,h,by unfold Kf;rw[M];exact J⟩
 have N: ∀{out:bK},b7 own (cN tmps) (aD mem) o.op=true->J1 P own tk o (cN tmps) (aD mem) rs=some out.down->Kf P C own tk boxed raw vars o (cN tmps) (aD mem) rs=some out.down:=by
  intro out M U;unfold Kf;rw[M];exact U
 unfold UG at h;split at h
 ·rename_i x J;cases hx:own&&l9 x with
  |true=>
   rw[hx]at h;obtain⟨out,h,hm⟩:=Ip ht h;exact⟨out,h,N (by rw[J];exact hx) (by unfold J1;rw[J];exact hm)⟩
  |false=>rw[hx]at h;exact plain (by rw[J];exact hx) h
 ·rename_i x J;cases hx:own&&l9 x with
  |true=>
   rw[hx]at h;obtain⟨out,h,hm⟩:=Ip ht h;exact⟨out,h,N (by rw[J];exact hx) (by unfold J1;rw[J];exact hm)⟩
  |false=>rw[hx]at h;exact plain (by rw[J];exact hx) h
 ·rename_i t len parts J;cases own with
  |true=>
   obtain⟨out,h,hm⟩:=MT ht V h;exact⟨out,h,N (by rw[J];rfl) (by unfold J1;rw[J];exact hm)⟩
  |false=>exact plain (by rw[J];rfl) h
 ·rename_i t l c J;cases own with
  |true=>
   simp only[yh]at h;obtain⟨l',hl,h,_⟩:=a8 V h;obtain⟨c',hc,h,_⟩:=a8 V h;obtain⟨out,h,hm⟩:=O6 (mem:=mem) ht hl hc h;exact⟨out,h,N (by rw[J];rfl) (by unfold J1;rw[J];exact hm)⟩
  |false=>exact plain (by rw[J];rfl) h
 ·rename_i t a J;obtain⟨v,hv,h,_⟩:=a8 V h;have M:b7 own (cN tmps) (aD mem) o.op=H1 mem v:=by rw[J];show oY _ _ _=_;rw[FJ hv,Ko]
  cases U:H1 mem v with
  |true=>
   rw[U]at h M;obtain⟨out,h,hm⟩:=O4 ht h;exact⟨out,h,N M (by unfold J1;rw[J];simp only[hv,ya];exact hm)⟩
  |false=>rw[U]at h M;exact plain M h
 ·rename_i t a x J;obtain⟨v,hv,h,_⟩:=a8 V h;have M:b7 own (cN tmps) (aD mem) o.op=H1 mem v:=by rw[J];show oY _ _ _=_;rw[FJ hv,Ko]
  cases U:H1 mem v with
  |true=>
   rw[U]at h M;simp only[yh]at h;obtain⟨x',hx,h,_⟩:=a8 V h;obtain⟨out,h,hm⟩:=NB ht h;exact⟨out,h,N M (by unfold J1;rw[J];simp only[hv,hx,ya];exact hm)⟩
  |false=>rw[U]at h M;exact plain M h
 ·rename_i t x lo hi' mx J;obtain⟨v,hv,h,_⟩:=a8 V h;have M:b7 own (cN tmps) (aD mem) o.op=Bz mem v:=by rw[J];show oY _ _ _=_;rw[FJ hv,E7]
  cases U:Bz mem v with
  |true=>
   rw[U]at h M;simp only[yh]at h;obtain⟨lo,hlo,h⟩:=s5 V h;obtain⟨hi2,hhi,h⟩:=s5 V h;obtain⟨mx,hmx,h⟩:=s5 V h;obtain⟨out,h,hm⟩:=NN ht h;exact⟨out,h,N M (by unfold J1;rw[J];simp only[hv,hlo,hhi,hmx,ya];exact hm)⟩
  |false=>rw[U]at h M;exact plain M h
 ·rename_i t x ix J;obtain⟨v,hv,h,_⟩:=a8 V h;have M:b7 own (cN tmps) (aD mem) o.op=Bz mem v:=by rw[J];show oY _ _ _=_;rw[FJ hv,E7]
  cases U:Bz mem v with
  |true=>
   rw[U]at h M;simp only[yh]at h;obtain⟨iv,hiv,h,_⟩:=a8 V h;split at h
   ·rename_i kd i;obtain⟨out,h,hm⟩:=NA ht h;exact⟨out,h,N M (by unfold J1;rw[J];simp only[hv,hiv,ya];exact hm)⟩
   ·cases h
  |false=>rw[U]at h M;exact plain M h
 ·rename_i c J;split at h
  ·rename_i O;obtain⟨args,H,h,_⟩:=nJ V h;split at h
   ·rename_i t x Z _hgn;have M:b7 own (cN tmps) (aD mem) o.op=Q4 mem x:=by
     rw[J]
     show(match c.callee,c.args.toList with
      | .builtin .len,[x]=>oY (cN tmps) (L0 (aD mem)) x
      | .builtin .append,[x,_]=>own||oY (cN tmps) (BZ (aD mem)) x
      |_,_=>false)=_
     rw[O];cases hl:c.args.toList with
     |nil=>rw[hl]at H;cases H
     |cons a as=>
      rw[hl]at H;simp only[qT,Hx,KV.downs]at H;obtain⟨w,hw,H⟩:=H;rw[yf]at H;obtain⟨ws,K,e⟩:=H;obtain⟨rfl,rfl⟩:=yd1 e;cases as with
      |cons b bs=>
       simp only[qT,Hx]at K;obtain⟨_,_,K⟩:=K;rw[yf]at K;obtain⟨_,_,e⟩:=K;cases e
      |nil=>simp only;rw[FJ hw,SG]
    cases U:Q4 mem x with
    |true=>
     rw[U]at h M;obtain⟨out,h,hm⟩:=RL ht h;refine⟨out,h,N M ?_⟩;unfold J1;rw[J];simp only[H,ya,O,KV.downs,Z,oI];exact hm
    |false=>rw[U]at h M;exact plain M h
   ·rename_i args _ _ hno _hgn;have Y:=h;obtain⟨out,h,hop'⟩:=QH ht hC V h;exfalso
    -- the operation answers nothing at other numbers of arguments
    unfold O0 at Y;rw[J]at Y;simp only[O]at Y;obtain⟨args2,W,Y,_⟩:=nJ V Y;unfold Ef at Y;simp only at Y;split at Y
    ·rename_i t x Z _;rw[H]at W;have: ∃y,args= [y]:=by
      have e:=yb W;cases args with
      |nil=>cases e
      |cons y ys=>cases ys with
       |nil=>exact⟨y,rfl⟩
       |cons z zs=>simp[KV.downs]at e
     obtain⟨y,rfl⟩:=this;exact hno _ _ Z rfl
    ·cases Y
  ·rename_i O;obtain⟨args,H,h,_⟩:=nJ V h;split at h
   ·rename_i t tx x y Z _hgn;have M:b7 own (cN tmps) (aD mem) o.op=(own||Bz mem x):=by
     rw[J]
     show(match c.callee,c.args.toList with
      | .builtin .len,[x]=>oY (cN tmps) (L0 (aD mem)) x
      | .builtin .append,[x,_]=>own||oY (cN tmps) (BZ (aD mem)) x
      |_,_=>false)=_
     rw[O];cases hl:c.args.toList with
     |nil=>rw[hl]at H;cases H
     |cons a as=>
      rw[hl]at H;simp only[qT,Hx,KV.downs]at H;obtain⟨w,hw,H⟩:=H;rw[yf]at H;obtain⟨ws,K,e⟩:=H;obtain⟨rfl,rfl⟩:=yd1 e;cases as with
      |nil=>cases K
      |cons b bs=>cases bs with
       |nil=>simp only;rw[FJ hw,E7]
       |cons b' bs=>
        simp only[qT,Hx]at K;obtain⟨_,_,K⟩:=K;rw[yf]at K;obtain⟨_,K,e⟩:=K;rw[Hx]at K;obtain⟨_,_,K⟩:=K;rw[yf]at K;obtain⟨_,_,e2⟩:=K;subst e2;cases e
    cases U:own||Bz mem x with
    |true=>
     rw[U]at h M;obtain⟨out,h,hm⟩:=L9 ht h;refine⟨out,h,N M ?_⟩;unfold J1;rw[J];simp only[H,ya,O,KV.downs,Z,oI];exact hm
    |false=>rw[U]at h M;exact plain M h
   ·cases h
  ·rename_i h1 Y;refine plain ?_ h;rw[J]
   show(match c.callee,c.args.toList with
    | .builtin .len,[x]=>oY (cN tmps) (L0 (aD mem)) x
    | .builtin .append,[x,_]=>own||oY (cN tmps) (BZ (aD mem)) x
    |_,_=>false)=_
   split
   ·rename_i e _;exact(h1 e).elim
   ·rename_i e _;exact(Y e).elim
   ·rfl
 ·rename_i g1 g2 g3 g4 g5 g6 g7 g8 g9;refine plain ?_ h;unfold b7;split<;>first
   |rfl
   |(rename_i e;exact(g1 _ e).elim)
   |(rename_i e;exact(g2 _ e).elim)
   |(rename_i e;exact(g3 _ _ _ e).elim)
   |(rename_i e;exact(g4 _ _ _ e).elim)
   |(rename_i e;exact(g5 _ _ e).elim)
   |(rename_i e;exact(g6 _ _ _ e).elim)
   |(rename_i e;exact(g7 _ _ _ _ _ e).elim)
   |(rename_i e;exact(g8 _ _ _ e).elim)
   |(rename_i e;exact(g9 _ e).elim)
end
end Go.Ab
