import Derived.Test.YtjjjbgicidhpfaaDoorLib21
set_option linter.unusedVariables false
set_option linter.unusedSectionVars false
set_option linter.unusedSimpArgs false
namespace Go.Ab
variable [cF]
section
variable {P:Program} {R:Type} {r:R} {mem:aF} {tab:TypeId->Option TI} {C:bX} {tbl:FuncId->List aE}
theorem rW(mem:aF)(b:Nat):yT (aB mem) b=Dr mem b:=by
 unfold yT Dr;rw[JG];cases eO mem b with
 |none=>rfl
 |some y=>cases y with
  |none=>rfl
  |some x=>exact dM x.row
theorem Co(mem:aF)(v:KV):A0 (aB mem) v.down=Aw mem v:=by
 cases v with
 |msw b g=>exact rW mem b
 |ms b g o n=>exact rW mem b
 |_=>rfl
theorem Q2(mem:aF)(v:KV):JQ (aB mem) v.down=O4 mem v:=by
 cases v with
 |msw b g=>exact rW mem b
 |_=>rfl
theorem Iu(mem:aF)(v:KV):Js (aB mem) v.down=Hw mem v:=by
 cases v with
 |ptr b g i c=>exact rW mem b
 |_=>rfl
theorem RN(c:Nat): ∀hs:c7,Bz c (bB hs)=bB (H2 c hs)
 | []=>rfl
 |(i,H,v)::r=>by
  simp only[bB,Bz,H2];cases Nat.beq c H with
  |true=>rfl
  |false=>simp only[yh,bB,RN c r]
theorem mF(a b:c7):bB (a++b)=bB a++bB b:=by
 induction a with
 |nil=>rfl
 |cons h a H=>simp only[yk3,bB,H]
theorem JK(a b:aF):aB (a++b)=aB a++aB b:=by simp[aB]
noncomputable def S5(P:Program):List Ty->List LK->Bool
 | [],[]=>true
 |T::Ts,l::ls=>a7 P T [l]&&S5 P Ts ls
 |_,_=>false
theorem Kb: ∀{T:Ty} {ls:List LK},a7 P T ls=true->S5 P (c8 T) ls=true
 | .cons a b,ls,h=>by
  simp only[a7]at h;split at h
  ·rename_i l ls;simp only[yc]at h;simp only[c8,gF (nb.1 h.1.1),List.singleton_append,S5,yc];exact⟨h.1.2,Kb h.2⟩
  ·cases h
 | .int k,ls,h=>one rfl h
 | .bool,ls,h=>one rfl h
 | .str,ls,h=>one rfl h
 | .sl ag T,ls,h=>one rfl h
 where
 one {T:Ty} {ls:List LK} (H:T.size=1) (h:a7 P T ls=true):S5 P (c8 T) ls=true:=by
  obtain⟨l,rfl⟩:=Ds H h;rw[gF H];simp only[S5,h,yi1]
theorem Qo{T:Ty}{u:Value}(h:jK T (.lit u)=true):T.flat=true:=by
 cases T<;>first|rfl|(cases u<;>cases h)
theorem HW(ag:Bool)(T:Ty)(xs:List (den T)):cW (dS ag T xs)=some (KRow.ts false ag T xs).down:=by
 cases H:a6 ag T with
 |true=>obtain⟨rfl,kk,rfl⟩:=aO.1 H;rfl
 |false=>
  rw[cB H,KRow.down_sl H];simp only[cW];rw[eK];exact⟨nl.2 Ty.size_pos,rfl⟩
theorem Nt{tk:Bool}{i c:Nat}{v:KV}{hs:c7}{nb:Nat}{k:KV->c7->List KRow->Option R}{xs:List PV}{p q:PV}{l:LK}{T:Ty}(hc:a7 P T [l]=true)(M:jK T v=true)
  (N:xs[i]?=some p) (O:p.cells[c]?=some q) (H:lI true v q) (h:Dm (aS R) tk i c v hs nb k=some r):
  ∃a hs' rows,k a hs' rows=some r/\pJ tk xs i c l (bB hs) nb=some (a.down,bB hs',rows.map KRow.down):=by
 unfold Dm at h;unfold pJ;simp only[N,O,yb,yP];cases hf:m9 c hs with
 |some hh=>
  rw[hf]at h;simp only[real_guard]at h;rw[bZ]at h;refine⟨_,_,_,h.2,?_⟩;simp only[yl];rw[eK];exact⟨h.1,rfl⟩
 |none=>
  rw[hf]at h;simp only[Option.map_none]at h⊢
  have J:=s0 hc;simp only[ym3,List.all_nil,yz3]at J;split at h
  ·rename_i u;rw[J,Qo M];refine⟨_,_,_,h,?_⟩;simp only[yg,wG hc M H,yl];rfl
  ·rename_i β ag U V;rw[bZ]at h;cases T with
   |sl W T2=>
    rw[J];refine⟨_,_,_,h.2,?_⟩;show guardB tk _=_;rw[eK];refine⟨h.1,?_⟩;have K:q=dS ag U V:=by
     rcases H with ⟨_,_,e,_⟩|⟨_,e,_⟩|⟨_,e,_⟩|⟨_,_,_,e,rfl⟩<;>cases e
     rfl
    rw[K,HW];rfl
   |_=>cases M
  ·cases h
theorem Fc{tk:Bool}{i:Nat}{xs:List PV}{p:PV}(W:xs[i]?=some p): ∀{vs:List KV} {O:List Ty} {ls:List LK} {c:Nat} {hs:c7} {nb:Nat} {k:List KV->c7->List KRow->Option R},
  S5 P O ls=true->aV O vs=true->(∀(j:Nat) (v:KV),vs[j]?=some v->∃q,p.cells[c+j]?=some q/\lI true v q)->FS (aS R) tk i vs c hs nb k=some r->
   ∃as hs' rows,k as hs' rows=some r/\qH tk xs i ls c (bB hs) nb=some (KV.downs as,bB hs',rows.map KRow.down)
 | [],[],[],c,hs,nb,k,hc,H,K,h=>⟨[],hs,[],h,rfl⟩
 |v::vs,T::O,l::ls,c,hs,nb,k,hc,H,K,h=>by
  simp only[S5,yc]at hc;simp only[aV,yc]at H;obtain⟨q,M,V⟩:=K 0 v rfl;rw[yw1]at M;simp only[FS]at h;obtain⟨a,Z,rows,h,hr⟩:=Nt hc.1 H.1 W M V h
  obtain⟨as,U,J,h,N⟩:=Fc W (c:=c+1) hc.2 H.2 (λj w hj=>by
   obtain⟨q,Y,h2⟩:=K (j+1) w (by simpa using hj)
   exact⟨q,by rw[show c+1+j=c+(j+1) by omega];exact Y,h2⟩) h
  refine⟨a::as,U,rows++J,h,?_⟩;simp only[qH,hr,yb,yk1,N,yl,KV.downs,ye4]
 | [],_::_,_,_,_,_,_,hc,H,K,h=>by cases H
 |_::_,[],_,_,_,_,_,hc,H,K,h=>by cases H
 | [],[],_::_,_,_,_,_,hc,H,K,h=>by cases hc
 |_::_,_::_,[],_,_,_,_,hc,H,K,h=>by cases hc
theorem sF: ∀rows:List KRow,e6 (rows.map KRow.down)=aB (qQ rows)
 | []=>rfl
 |r::rs=>by
  have H:=sF rs;simp only[yg2,e6,qQ,H];rfl
theorem IU(b:Nat)(H:dE)(T:Ty)(xs:List (den T))(v:KV)(hs:c7)(rows:List KRow):
  (Nc b H T xs v hs rows).down=BW b T.size H.down (xs.map (cR (fB T) T)) v.down (bB hs,rows.map KRow.down):=by
 cases rows with
 |nil=>rfl
 |cons r rs=>
  show dI.mk _ _ _ (aB (qQ (r::rs)))=_;rw[<-sF];rfl
theorem Oz(ht:bT P tab){tk:Bool}{t:TypeId}{a:KV}{k:bC->Option R}(h:NT (aS R) tab tk t mem a k=some r): ∃out,k out=some r/\Ce P tk t (aB mem) a.down=some out.down:=by
 unfold NT at h;split at h
 ·rename_i ti hti;have H:=b5.of (ht _ _ hti);split at h
  ·rename_i b g i c;obtain⟨bx,K,h⟩:=fF h;split at h
   ·rename_i T xs hs N;split at h
    ·rename_i T' V;simp only[real_getN]at h;rw[FJ]at h;obtain⟨x,hx,h⟩:=h;rw[bZ]at h;obtain⟨hl,h⟩:=h;obtain⟨⟨ls,M,hc⟩,hn,hag,_⟩:=H.ty T' V;have hp:(xs.map (cR (fB T) T))[i]?=some (cR (fB T) T x):=by rw[yg1,hx];rfl
     have hq: ∀(j:Nat) (v:KV),(((cellsOf true T x).drop c).take ti.n)[j]?=some v->∃q,(cR (fB T) T x).cells[c+j]?=some q/\lI true v q:=by
      intro j v O;rw[ys1]at O;split at O
      ·rw[ye1]at O;rw[cG];exact(kH (β:=true) (x:=x)).2 _ v O
      ·cases O
     have hd:bx.down.row= .own T.size (xs.map (cR (fB T) T)) (bB hs):=by rw[show bx.down.row=bx.row.down from rfl,N];rfl
     obtain⟨as,hs',rows,h,hr⟩:=Fc hp (Kb hc) hl hq h;cases U:ti.ag with
     |true=>
      rw[U]at h;simp only[yg]at h;refine⟨_,h,?_⟩;have J:=H.ag;rw[U]at J;simp only[KV.down,Ce,K,yb,hd,J,M,H.n];rw[eK];refine⟨nb.2 (by rw[eF hc,hn]),?_⟩;rw[eG,hr,yl,IU];rfl
     |false=>
      rw[U]at h;simp only[yh]at h;have J:=H.ag;rw[U]at J;obtain⟨l,Y,rfl⟩:=fL J M;split at h
      ·rename_i v;refine⟨_,h,?_⟩;simp only[KV.down,Ce,K,yb,hd,J,Y];rw[eG];simp only[qH,FJ]at hr;obtain⟨q,Z,hr⟩:=hr;rw[ye]at hr;obtain⟨q2,W,hr⟩:=hr;obtain rfl:=ya W;simp only[yo1,Prod.mk.injEq,KV.downs,List.cons.injEq,and_true]at hr;obtain⟨e1,e2,e3⟩:=hr;rw[Z,yl,IU,e1,<-e2,<-e3]
      ·cases h
    ·cases h
   ·cases h
  ·cases h
 ·cases h
theorem AD{i c:Nat}{hs:c7}{k:c7->Option R}(h:GE (aS R) i c hs k=some r): ∃hs',k hs'=some r/\Eu i c (bB hs)=some (bB hs'):=by
 unfold GE at h;unfold Eu;rw[yP];cases hf:m9 c hs with
 |none=>rw[hf]at h;exact⟨hs,h,rfl⟩
 |some q=>
  rw[hf]at h;simp only[real_guard]at h;rw[bZ]at h;obtain⟨H,h⟩:=h;rw[bZ]at h;refine⟨_,h.2,?_⟩;simp only[yl];rw[eK];rw[RN,yP,rY,<-zM,yc];exact⟨⟨h.1,H⟩,rfl⟩
theorem Nq(ag:Bool)(T:Ty)(xs:List (den T)):B7 (dS ag T xs)=some (dS ag T []):=by
 cases H:a6 ag T with
 |true=>obtain⟨rfl,kk,rfl⟩:=aO.1 H;rfl
 |false=>
  rw[cB H,cB H];simp only[B7];rw[eK];exact⟨nl.2 Ty.size_pos,rfl⟩
theorem JW{u v:Value}(h:FO u v=true):lI false (.lit v) (.lit v):=by
 unfold FO at h;split at h
 ·exact .inl ⟨_,_,rfl,rfl⟩
 ·exact .inr (.inl ⟨_,rfl,rfl⟩)
 ·exact .inr (.inr (.inl ⟨_,rfl,rfl⟩))
 ·cases h
theorem N3(ag:Bool)(T:Ty)(xs:List (den T)):(∃k H,dS ag T xs= .ints k H)\/∃e H,dS ag T xs= .sl e H:=by
 cases J:a6 ag T with
 |true=>obtain⟨rfl,K,rfl⟩:=aO.1 J;exact .inl ⟨K,xs,rfl⟩
 |false=>exact .inr ⟨_,_,cB J xs⟩
theorem D6{t:TypeId}{m:aK}{b g i c e:Nat}{J:bK}{xs:List PV}{hs hs':List (Nat×Nat×AV)}{p y:PV}{x:AV}(V:boxO? m b g=some J)(hr:J.row= .own e xs hs)(hn:jR P t=some 1)(hf:J.frz=false)(N:KB x=true)
  (W: ∀v,x≠ .lit v) (O:xs[i]?=some p) (U:p.cells[c]?=some y) (K:(∃k H,y= .ints k H)\/∃e H,y= .sl e H) (M:Eu i c hs=some hs'):
  nA P t m (.ptr b g i c) x=some {v:= .lit undef,rd:= [b],wr:= [(b,{J with row:= .own e xs ((i,c,x)::hs')})]}:=by
 simp only[nA,V,hr,hn,hf,N,yb,O,U];rw[eK];refine⟨rfl,?_⟩;rcases K with ⟨k,H,rfl⟩|⟨e',H,rfl⟩<;>cases x<;>first|exact absurd rfl (W _)|simp only[M,yl]
theorem OF{t:TypeId}{m:aK}{b g i c e:Nat}{J:bK}{xs:List PV}{hs hs':List (Nat×Nat×AV)}{p y N:PV}(W:boxO? m b g=some J)(hr:J.row= .own e xs hs)(hn:jR P t=some 1)(hf:J.frz=false)
  (O:xs[i]?=some p) (V:p.cells[c]?=some y) (K:(∃k H,y= .ints k H)\/∃e H,y= .sl e H) (U:B7 y=some N) (M:Eu i c hs=some hs'):
  nA P t m (.ptr b g i c) (.lit (.slice none 0 0))=some {v:= .lit undef,rd:= [b],wr:= [(b,{J with row:= .own e (xs.set i (jZ p c N)) hs'})]}:=by
 simp only[nA,W,hr,hn,hf,yb,O,V];rw[eK];refine⟨rfl,?_⟩;rcases K with ⟨k,H,rfl⟩|⟨e',H,rfl⟩<;>simp only[U,yb,M,yl]
theorem Ma(ht:bT P tab){t:TypeId}{a x:KV}{k:bC->Option R}(h:J9 (aS R) tab t mem a x k=some r): ∃out,k out=some r/\nA P t (aB mem) a.down x.down=some out.down:=by
 unfold J9 at h;split at h
 ·rename_i ti hti;have hok:=b5.of (ht _ _ hti);split at h
  ·rename_i b g i c;obtain⟨bx,M,h⟩:=fF h;split at h
   ·rename_i T xs hs hrow;rw[bZ]at h;obtain⟨hg,h⟩:=h;simp only[yc,yw]at hg;obtain⟨⟨g1,g2⟩,g3⟩:=hg;simp only[real_getN]at h;rw[FJ]at h;obtain⟨p,hp,h⟩:=h;have hn:jR P t=some 1:=by rw[hok.n,nb.1 g1]
    have hd:bx.down.row= .own T.size (xs.map (cR (fB T) T)) (bB hs):=by rw[show bx.down.row=bx.row.down from rfl,hrow];rfl
    have N:(xs.map (cR (fB T) T))[i]?=some (cR (fB T) T p):=by rw[yg1,hp];rfl
    split at h
    ·rename_i u H;rw[bA]at H;obtain⟨y,hy,U⟩:=(dH.of false T p).2 _ _ H;have J:y= .lit u:=by
      rcases U with ⟨_,_,e,rfl⟩|⟨_,e,rfl⟩|⟨_,e,rfl⟩|⟨_,_,_,e,_⟩<;>cases e<;>rfl
     subst J;split at h
     ·rename_i v;rw[bZ]at h;obtain⟨V,h⟩:=h;simp only[yc]at V;have Z:c<(aQ T p).length:=(yd.1 hy).1;rw[v5]at h;obtain⟨z,_,_,h,hz⟩:=mS ((dH.of false T p).set (JW V.1) c) h;refine⟨_,h,?_⟩;simp only[KV.down,nA,M,hd,hn,yb,N,cG,hy,show bx.down.frz=bx.frz from rfl,g2];rw[eK];refine⟨qU g3,?_⟩;rw[eK];refine⟨?_,?_⟩
      ·rw[yc,yP,rY,<-zM];exact V
      ·rw[Hl Z hz,NF];rfl
     ·cases h
    ·rename_i β Y T' ys H;rw[bA]at H;obtain⟨y,hy,U⟩:=(dH.of false T p).2 _ _ H;have J:y=dS Y T' ys:=by
      rcases U with ⟨_,_,e,_⟩|⟨_,e,_⟩|⟨_,e,_⟩|⟨_,_,_,e,rfl⟩<;>cases e
      rfl
     have W:(cR (fB T) T p).cells[c]?=some y:=by rw[cG];exact hy
     have O:(∃k ys,y= .ints k ys)\/∃e ys,y= .sl e ys:=by rw[J];exact N3 _ _ _
     split at h
     ·obtain⟨hs',h,K⟩:=AD h;have Z:c<(aQ T p).length:=(yd.1 hy).1;rw[v5]at h;obtain⟨z,_,_,h,hz⟩:=mS ((dH.of false T p).set (v:= .tsl false Y T' []) (q:=dS Y T' []) (.inr (.inr (.inr ⟨_,_,_,rfl,rfl⟩))) c) h;refine⟨_,h,?_⟩;have:=OF (P:=P) M hd hn g2 N W O (by rw[J];exact Nq _ _ _) K;rw[Hl Z hz,NF]at this;exact this
     ·obtain⟨hs',h,K⟩:=AD h;exact⟨_,h,D6 (P:=P) M hd hn g2 (qU g3) (by simp[KV.down]) N W O K⟩
     ·obtain⟨hs',h,K⟩:=AD h;exact⟨_,h,D6 (P:=P) M hd hn g2 (qU g3) (by simp[KV.down]) N W O K⟩
     ·cases h
    ·cases h
   ·cases h
  ·cases h
 ·cases h
theorem P7(ht:bT P tab){t:TypeId}{x:KV}{k:bC->Option R}(h:Ru tab t mem x k=some r): ∃out,k out=some r/\MC P t (aB mem) x.down=some out.down:=by
 unfold Ru at h;split at h
 ·rename_i ti K;have M:=b5.of (ht _ _ K);split at h
  ·rename_i et b g O;obtain⟨N,J,h⟩:=fF h;split at h
   ·rename_i T xs hs H;refine⟨_,h,?_⟩;simp only[KV.down,MC,M.under_sl O,J,yl,show N.down.row=N.row.down from rfl,pN,H];rfl
   ·cases h
  ·cases h
 ·cases h
theorem Mn(ht:bT P tab){t:TypeId}{x:KV}{i:Int}{k:bC->Option R}(h:Kg (aS R) tab t mem x i k=some r): ∃out,k out=some r/\sC P t (aB mem) x.down i=some out.down:=by
 unfold Kg at h;have O:=gG ht h;clear h;obtain⟨et,te,U,M,h,N⟩:=O;have J:=b5.of (ht _ _ M);split at h
 ·rename_i b g o n;obtain⟨K,H,h⟩:=fF h;rw[bZ]at h;obtain⟨hn,h⟩:=h;simp only[real_guard]at h;rw[bZ]at h;refine⟨_,h.2,?_⟩;simp only[sC,KV.down,N,J.n,yb,H,show K.down.row=K.row.down from rfl,Ad,eK,hn,h.1,yo2];exact⟨by simp,rfl⟩
 ·rename_i b g;obtain⟨K,H,h⟩:=fF h;rw[bZ]at h;obtain⟨hn,h⟩:=h;simp only[real_guard]at h;rw[bZ]at h;refine⟨_,h.2,?_⟩;simp only[sC,KV.down,N,J.n,yb,H,show K.down.row=K.row.down from rfl,Ad,pN,eK,hn,h.1,yo2];exact⟨by simp,rfl⟩
 ·cases h
theorem ML(ht:bT P tab){t:TypeId}{x:KV}{W U V:Option Int}{k:bC->Option R}(h:Kz (aS R) tab t mem x W U V k=some r): ∃out,k out=some r/\sH P t (aB mem) x.down W U V=some out.down:=by
 unfold Kz at h;have Y:=gG ht h;clear h;obtain⟨et,te,Z,M,h,O⟩:=Y;have J:=b5.of (ht _ _ M);split at h
 ·rename_i b g o n;obtain⟨K,H,h⟩:=fF h;rw[bZ]at h;obtain⟨hn,h⟩:=h;obtain⟨q,N,h⟩:=fV h;refine⟨_,h,?_⟩;simp only[sH,KV.down,O,J.n,yb,H,show K.down.row=K.row.down from rfl,Ad,eK,hn,N,yl];exact⟨trivial,rfl⟩
 ·rename_i b g;obtain⟨K,H,h⟩:=fF h;rw[bZ]at h;obtain⟨hn,h⟩:=h;obtain⟨q,N,h⟩:=fV h;refine⟨_,h,?_⟩;simp only[sH,KV.down,O,J.n,yb,H,show K.down.row=K.row.down from rfl,Ad,pN,eK,hn,N,yl];exact⟨trivial,rfl⟩
 ·cases h
theorem OZ{ag:Bool}{T:Ty}{l:LK}(hc:a7 P (.sl ag T) [l]=true):(∃k,l= .ints k/\ag=false/\T= .int k)\/(∃t,l= .sl t T.size/\a6 ag T=false):=by
 simp only[a7]at hc;split at hc
 ·rename_i k H;obtain rfl:=(yb1 H).1;cases ag with
  |true=>simp at hc
  |false=>
   cases T with
   |int k'=>simp only at hc;obtain rfl:=vO.1 hc;exact .inl ⟨k,rfl,rfl,rfl⟩
   |_=>simp at hc
 ·rename_i t e H;obtain rfl:=(yb1 H).1;simp only[yc,yw]at hc;obtain rfl:=nb.1 hc.1.1.1.1;exact .inr ⟨t,rfl,hc.1.1.1.2⟩
 ·cases hc
theorem C9{T:Ty}{l:LK}(hc:a7 P T [l]=true):(∀k,T= .int k->l= .int k)/\(T= .bool->l= .bool)/\(T= .str->l= .str):=by
 refine⟨?_,?_,?_⟩
 ·rintro k rfl
  simp only[a7]at hc;split at hc
  ·rename_i k' H;obtain rfl:=(yb1 H).1;rw[vO.1 hc]
  ·cases hc
 ·rintro rfl
  simp only[a7]at hc;split at hc
  ·rename_i H;exact(yb1 H).1
  ·cases hc
 ·rintro rfl
  simp only[a7]at hc;split at hc
  ·rename_i H;exact(yb1 H).1
  ·cases hc
theorem N0{T:Ty}{l:LK}{v:KV}{j c:Nat}{a:KV×c7}(hc:a7 P T [l]=true)(h:OA T v j c=some a):
  ∃q,B8 l v.down j c=some (q,bB a.2)/\lI false a.1 q:=by
 have hole: ∀{ag:Bool} {T:Ty} {w:AV} (J:(∃b g,w= .msw b g)\/(∃b g o n,w= .ms b g o n)) (hc:a7 P (.sl ag T) [l]=true),B8 l w j c=some (dS ag T [],[(j,c,w)]):=by
  intro ag T w J hc;rcases OZ hc with ⟨k,rfl,rfl,rfl⟩|⟨t,rfl,H⟩
  ·rcases J with ⟨b,g,rfl⟩|⟨b,g,o,n,rfl⟩<;>rfl
  ·rw[cB H];rcases J with ⟨b,g,rfl⟩|⟨b,g,o,n,rfl⟩
   ·simp only[B8];rw[eK];exact⟨nl.2 Ty.size_pos,rfl⟩
   ·simp only[B8];rw[eK];exact⟨nl.2 Ty.size_pos,rfl⟩
 unfold OA at h;split at h
 ·rename_i k k' x;rw[bZ]at h;obtain⟨K,h⟩:=h;obtain rfl:=ya h;obtain rfl:=vO.1 K;rw[(C9 hc).1 _ rfl];refine⟨.lit (.int k x),?_,.inl ⟨_,_,rfl,rfl⟩⟩;simp only[KV.down,B8];rw[eK];exact⟨K,rfl⟩
 ·obtain rfl:=ya h;rw[(C9 hc).2.1 rfl];exact⟨_,rfl,.inr (.inl ⟨_,rfl,rfl⟩)⟩
 ·obtain rfl:=ya h;rw[(C9 hc).2.2 rfl];exact⟨_,rfl,.inr (.inr (.inl ⟨_,rfl,rfl⟩))⟩
 ·rename_i ag T;obtain rfl:=ya h;refine⟨dS ag T [],?_,.inr (.inr (.inr ⟨_,_,_,rfl,rfl⟩))⟩;rcases OZ hc with ⟨k,rfl,rfl,rfl⟩|⟨t,rfl,H⟩
  ·rfl
  ·rw[cB H];simp only[KV.down,B8];rw[eK];exact⟨nl.2 Ty.size_pos,rfl⟩
 ·rename_i ag T b g;obtain rfl:=ya h;exact⟨dS ag T [],hole (.inl ⟨_,_,rfl⟩) hc,.inr (.inr (.inr ⟨_,_,_,rfl,rfl⟩))⟩
 ·rename_i ag T b g o n;obtain rfl:=ya h;exact⟨dS ag T [],hole (.inr ⟨_,_,_,_,rfl⟩) hc,.inr (.inr (.inr ⟨_,_,_,rfl,rfl⟩))⟩
 ·cases h
theorem Gf: ∀{K:List Ty} {ls:List LK} {vs:List KV} {j c:Nat} {a:List KV×c7},S5 P K ls=true->R5 K vs j c=some a->∃qs,QE ls (KV.downs vs) j c=some (qs,bB a.2)/\dH false a.1 qs
 | [],[],[],j,c,a,hc,h=>by
  obtain rfl:=ya h;exact⟨[],rfl,rfl,λj v J=>by cases J⟩
 |T::K,l::ls,v::vs,j,c,a,hc,h=>by
  simp only[S5,yc]at hc;simp only[R5]at h;split at h
  ·rename_i a1 O;split at h
   ·rename_i a2 U;obtain rfl:=ya h;obtain⟨q,V,N⟩:=N0 hc.1 O;obtain⟨qs,M,H⟩:=Gf hc.2 U;refine⟨q::qs,?_,?_,?_⟩
    ·simp only[KV.downs,QE,V,yb,M,yl,mF]
    ·simp only[yz,H.1]
    ·intro j v J;cases j with
     |zero=>obtain rfl:=ya J;exact⟨q,rfl,N⟩
     |succ j=>exact H.2 j v (by simpa using J)
   ·cases h
  ·cases h
 | [],_::_,_,_,_,_,hc,h=>by cases hc
 |_::_,[],_,_,_,_,hc,h=>by cases hc
 | [],_,_::_,_,_,_,_,h=>by cases h
 |_::_,_,[],_,_,_,_,h=>by cases h
theorem q5{t:TypeId}{T:Ty}{ls:List LK}(hc:a7 P T ls=true)(M:isAgg? P t=some (fB T))(hs:fB T=false->T.size=1): ∀{H:List (List KV)} {j:Nat} {k:List (den T)->c7->Option R},Gd (aS R) T H j k=some r->
  ∃xs hs,k xs hs=some r/\Fw P t ls (H.map KV.downs) j=some (xs.map (cR (fB T) T),bB hs)
 | [],j,k,h=>⟨[],[],h,rfl⟩
 |cs::H,j,k,h=>by
  simp only[Gd]at h;split at h
  ·rename_i a U;obtain⟨qs,N,K⟩:=Gf (Kb hc) U;obtain⟨x,_,_,h,O⟩:=mS K h;obtain⟨xs,hs',h,J⟩:=q5 hc M hs h;refine⟨x::xs,a.2++hs',h,?_⟩;simp only[yg2,Fw,N,yb,<-O,rB M hs,J,yl,mF]
  ·cases h
theorem rX{n:Nat}: ∀{hs:c7} {k:Option R},wY (aS R) n hs k=some r->k=some r/\mC n (bB hs)=true
 | [],k,h=>⟨h,rfl⟩
 |(i,c,v)::hs,k,h=>by
  simp only[wY,real_guard]at h;rw[bZ]at h;obtain⟨J,H⟩:=rX h.2;exact⟨J,by simp only[bB,mC,h.1,H,yi1]⟩
theorem yO(e n:Nat)(cs:List KV):chunks e n (KV.downs cs)=(chunks e n cs).map KV.downs:=by
 rw[cQ,AJ];congr 1;funext l;exact(cQ l).symm
theorem J2(ht:bT P tab){own:Bool}{t tx:TypeId}{rs:Nat}{x y:KV}{k:bC->Option R}(h:GT (aS R) tab own t tx mem rs x y k=some r):
  ∃out,k out=some r/\nD P own t tx (aB mem) rs x.down y.down=some out.down:=by
 unfold GT at h;have h0:=gG ht h;clear h;obtain⟨et,N,het,hte,h0,hu⟩:=h0;have J:=b5.of (ht _ _ hte);have h:=CY ht h0;clear h0;obtain⟨yr,K,h,hyv⟩:=h;split at h
 ·rename_i e cs;split at h
  ·rename_i T hT;rw[bZ]at h;obtain⟨U,h⟩:=h;simp only[yc]at U;obtain⟨⟨⟨⟨⟨⟨g1,g2⟩,g3⟩,g4⟩,g5⟩,g6⟩,g7⟩:=U;obtain⟨⟨ls,hls,hc⟩,hn,O,_⟩:=J.ty T hT;have g7:=KO.1 g7;have hz:=J.zero_eq.1;have ha:=J.ag;rw[g7]at ha O
   have Z: ∀{W:Option dI} {o:dI},W=some o->(match x.down with
     | .lit (.slice none 0 0)=>guardB own ((Fw P et ls (chunks N.n (aR N.n cs.length) (KV.downs cs)) 0).bind λq=>guardB (Nat.ble 1 q.1.length&&Nat.ble q.1.length bJ)
       (some { v := .msw rs 0, rd := K, wr := [(rs, { gen := 0, frz := false, row := .own N.n q.1 q.2 })] }))
     | .msw b g=>(boxO? (aB mem) b g).bind λH=>match H.row with
      | .own e' xs hs=>(Fw P et ls (chunks N.n (aR N.n cs.length) (KV.downs cs)) xs.length).bind λq=>guardB (!H.frz&&Nat.beq N.n e'&&mC xs.length hs&&Nat.ble (xs++q.1).length bJ)
        (some {v:= .msw b (g+1),rd:=b::K,wr:= [(b,{gen:=g+1,frz:=false,row:= .own e' (xs++q.1) (hs++q.2)})]})
      |_=>none
     | .ms b g 0 n=>(boxO? (aB mem) b g).bind λH=>match H.row with
      | .own e' xs hs=>(Fw P et ls (chunks N.n (aR N.n cs.length) (KV.downs cs)) n).bind λq=>guardB (!H.frz&&Nat.beq N.n e'&&Nat.ble n xs.length&&mC n hs&&Nat.ble (xs.take n++q.1).length bJ)
        (some {v:= .msw b (g+1),rd:=b::K,wr:= [(b,{gen:=g+1,frz:=false,row:= .own e' (xs.take n++q.1) (hs++q.2)})]})
      |_=>none
     |_=>none)=W->nD P own t tx (aB mem) rs x.down y.down=some o:=by
    intro W o hres hm;unfold nD;simp only[het,yb,J.n,J.bytes,hz,hls,hyv,KRow.view];rw[eK];refine⟨?_,?_⟩
    ·simp only[yc];refine⟨⟨⟨⟨⟨⟨g1,AL ht g2⟩,g3⟩,g4⟩,?_⟩,?_⟩,fG g6⟩
     ·rw[(zeroCells J).1,aJ,(zeroCells J).2.2];exact g5
     ·rw[eF hc,hn];exact nb.2 rfl
    ·rw[aJ];exact hm.trans hres
   split at h
   ·rw[bZ]at h;obtain⟨ho,h⟩:=h;obtain⟨xs,hs,h,he⟩:=q5 (t:=et) hc ha O h;rw[real_guard,bZ]at h;refine⟨_,h.2,Z (o:=(bC.mk (.msw rs 0) K [(rs,⟨0,false,.os T xs hs⟩)] []).down) rfl ?_⟩;simp only[KV.down,yO,he,yb];rw[eK];refine⟨ho,?_⟩;rw[eK];refine⟨by rw[yk1];exact h.1,?_⟩;rw[<-hn];rfl
   ·rename_i b g;obtain⟨H,V,h⟩:=fF h;split at h
    ·rename_i T' xs hs M;obtain⟨zs,hs',h,he⟩:=q5 (t:=et) hc ha O h;split at h
     ·rename_i ys Y;obtain⟨rfl,rfl⟩:=eA Y;rw[bZ]at h;obtain⟨U,h⟩:=h;simp only[yc,yw]at U;obtain⟨h,hlt⟩:=rX h;rw[real_guard,bZ]at h;have hd:H.down.row= .own T.size (xs.map (cR (fB T) T)) (bB hs):=by rw[show H.down.row=H.row.down from rfl,M];rfl
      refine⟨_,h.2,Z (o:=(bC.mk (.msw b (g+1)) (b::K) [(b,⟨g+1,false,.os T (xs++zs) (hs++hs')⟩)] []).down) rfl ?_⟩;simp only[KV.down,V,yb,hd,yO,yk1,he];rw[eK];refine⟨?_,?_⟩
      ·simp only[yc,yw,show H.down.frz=H.frz from rfl];refine⟨⟨⟨U.1,nb.2 hn.symm⟩,hlt⟩,?_⟩;have h1:=h.1;simp only[yi]at h1;simp only[yi,yk1];exact h1
      ·simp only[bC.down,yg2,yf4,dE.down,KRow.down,ye4,mF];rfl
     ·cases h
    ·cases h
   ·rename_i b g o n;rw[real_guard,bZ]at h;obtain⟨ho,h⟩:=h;obtain rfl:=nb.1 ho;obtain⟨H,V,h⟩:=fF h;split at h
    ·rename_i T' xs hs M;obtain⟨zs,hs',h,he⟩:=q5 (t:=et) hc ha O h;split at h
     ·rename_i ys Y;obtain⟨rfl,rfl⟩:=eA Y;rw[bZ]at h;obtain⟨U,h⟩:=h;simp only[yc,yw]at U;rw[real_guard,bZ]at h;obtain⟨hnl,h⟩:=h;obtain⟨h,hlt⟩:=rX h;rw[real_guard,bZ]at h;have hd:H.down.row= .own T.size (xs.map (cR (fB T) T)) (bB hs):=by rw[show H.down.row=H.row.down from rfl,M];rfl
      refine⟨_,h.2,Z (o:=(bC.mk (.msw b (g+1)) (b::K) [(b,⟨g+1,false,.os T (xs.take n++zs) (hs++hs')⟩)] []).down) rfl ?_⟩;simp only[KV.down,V,yb,hd,yO,he];rw[eK];refine⟨?_,?_⟩
      ·simp only[yc,yw,show H.down.frz=H.frz from rfl];refine⟨⟨⟨⟨U.1,nb.2 hn.symm⟩,by rw[yk1];exact hnl⟩,hlt⟩,?_⟩;have h1:=h.1;simp only[yi,yn2]at h1;simp only[yi,yk1,yn2];exact h1
      ·simp only[bC.down,yg2,yf4,dE.down,KRow.down,ye4,yl3,mF];rfl
     ·cases h
    ·cases h
   ·cases h
  ·cases h
 ·cases h
theorem GJ(ht:bT P tab){t:TypeId}{rs:Nat}{k:bC->Option R}(h:Kc tab t rs k=some r): ∃out,k out=some r/\Iv P t rs=some out.down:=by
 unfold Kc at h;have M:=gG ht h;clear h;obtain⟨et,te,K,J,h,hu⟩:=M;have H:=b5.of (ht _ _ J);split at h
 ·rename_i T hT;rw[bZ]at h;obtain⟨_,hn,_,_⟩:=H.ty T hT;refine⟨_,h.2,?_⟩;simp only[Iv,K,yb,H.n];rw[eK];refine⟨by rw[<-hn];exact nl.2 Ty.size_pos,?_⟩;rw[<-hn];rfl
 ·cases h
theorem Ox(ht:bT P tab){t:TypeId}{rs:Nat}{l c:KV}{ρ:Operand->Option AV}{ol oc:Operand}{k:bC->Option R}(hl:ρ ol=some l.down)(M:ρ oc=some c.down)(h:OB (aS R) tab rs t l c k=some r):
  ∃out,k out=some r/\Jj P ρ (aB mem) rs t ol oc=some out.down:=by
 unfold OB at h;have h0:=gG ht h;clear h;obtain⟨et,te,U,K,h,hu⟩:=h0;have H:=b5.of (ht _ _ K);split at h
 ·rename_i k1 n k2 n';split at h
  ·rename_i T hT;rw[bZ]at h;obtain⟨Z,h⟩:=h;simp only[yc]at Z;obtain⟨⟨⟨⟨g1,g2⟩,g3⟩,g4⟩,W⟩:=Z;have W:=KO.1 W;obtain⟨⟨ls,N,hc⟩,hn,J,_⟩:=H.ty T hT;have ha:=H.ag;rw[W]at ha J;split at h
   ·rename_i a h1;obtain⟨qs,hq,Y⟩:=Gf (Kb hc) h1;split at h
    ·rename_i V;obtain⟨z,_,_,h,hz⟩:=mS Y h;rw[real_guard,bZ]at h;refine⟨_,h.2,?_⟩;have O:(e8 te).down.cells=KV.downs (te.zero.map .lit):=by rw[(zeroCells H).1,(zeroCells H).2.1]
     unfold Jj;simp only[U,yb,H.zero_eq.1,hl,M,N,KV.down];rw[eK];refine⟨h.1,?_⟩;rw[O,hq];simp only[yb,<-hz,rB ha J,H.n,H.bytes];rw[eK];refine⟨?_,?_⟩
     ·simp only[yc];exact⟨⟨⟨⟨g1,g2⟩,by rw[aJ,yk1];exact g3⟩,fG g4⟩,by rw[V];rfl⟩
     ·simp only[bC.down,yg2,yf4,dE.down,KRow.down,List.map_replicate,hn];rfl
    ·cases h
   ·cases h
  ·cases h
 ·cases h
theorem vQ: ∀vs:List KV,(KV.downs vs).map AV.cells=(sM vs).map KV.downs
 | []=>rfl
 |v::vs=>by simp only[KV.downs,yg2,sM,eS,vQ vs]
theorem MB(ht:bT P tab){env:Nat->KV}{tmps:List AV}(he:fJ env tmps){rs:Nat}{t:TypeId}{len:Nat}{H:Array (Nat×Operand)}{k:bC->Option R}
  (h:Ko (aS R) tab env rs t len H k=some r): ∃out,k out=some r/\CA P (cC tmps) (aB mem) rs t len H=some out.down:=by
 unfold Ko at h;have N:=gG ht h;clear h;obtain⟨et,te,V,M,h,hu⟩:=N;have J:=b5.of (ht _ _ M);have N:=sI he h;clear h;obtain⟨ps,U,h⟩:=N;simp only at h;split at h
 ·rename_i T hT;rw[bZ]at h;obtain⟨Z,h⟩:=h;simp only[yc]at Z;obtain⟨⟨⟨⟨⟨⟨⟨g1,g2⟩,g3⟩,g4⟩,g5⟩,g6⟩,g7⟩,W⟩:=Z;have W:=KO.1 W;obtain⟨⟨ls,O,hc⟩,hn,K,_⟩:=J.ty T hT;have ha:=J.ag;rw[W]at ha K;obtain⟨xs,hs,h,Y⟩:=q5 (t:=et) hc ha K h;refine⟨_,h,?_⟩;unfold CA;rw[V];simp only[yb,J.zero_eq.1,J.n,U,O];rw[eK];constructor
  ·simp only[yc];refine⟨⟨⟨⟨⟨⟨sY g1,g2⟩,g3⟩,g4⟩,?_⟩,?_⟩,g6⟩
   ·have:(e8 te).down::(lK ps).map (·.2)=KV.downs (e8 te::ps.map (·.2)):=by simp[KV.downs,lK,cQ]
    rw[this];exact r6 g5
   ·rw[eF hc,hn];exact nb.2 rfl
  ·rw[<-Iy,<-vY,vQ,Y];simp only[yb];rw[eK];refine⟨by rw[qJ];exact fG g7,?_⟩;rw[<-hn];rfl
 ·cases h
theorem CX{ρ:Operand->Option AV}{p:AV->Bool}{x:Operand}{v:AV}(h:ρ x=some v):m7 ρ p x=p v:=by unfold m7;rw[h]
theorem Sv(ht:bT P tab)(hC:Gs C tbl){own tk boxed raw vars:Bool}{o:Oper}{env:Nat->KV}{tmps:List AV}(V:fJ env tmps){rs:Nat}{k:bC->Option R}(h:Tl (aS R) tab tbl own tk boxed raw vars o env mem rs k=some r):
  ∃out,k out=some r/\Ii P C own tk boxed raw vars o (cC tmps) (aB mem) rs=some out.down:=by
 have plain:bQ own (cC tmps) (aB mem) o.op=false->Lc (aS R) tab tbl boxed raw vars o env mem rs k=some r->∃out,k out=some r/\Ii P C own tk boxed raw vars o (cC tmps) (aB mem) rs=some out.down:=by
  intro M h;obtain⟨out,h,J⟩:=Ph ht hC V h;exact⟨out,h,by unfold Ii;rw[M];exact J⟩
 have N: ∀{out:bC},bQ own (cC tmps) (aB mem) o.op=true->Ic P own tk o (cC tmps) (aB mem) rs=some out.down->Ii P C own tk boxed raw vars o (cC tmps) (aB mem) rs=some out.down:=by
  intro out M U;unfold Ii;rw[M];exact U
 unfold Tl at h;split at h
 ·rename_i x J;cases hx:own&&kI x with
  |true=>
   rw[hx]at h;obtain⟨out,h,hm⟩:=GJ ht h;exact⟨out,h,N (by rw[J];exact hx) (by unfold Ic;rw[J];exact hm)⟩
  |false=>rw[hx]at h;exact plain (by rw[J];exact hx) h
 ·rename_i x J;cases hx:own&&kI x with
  |true=>
   rw[hx]at h;obtain⟨out,h,hm⟩:=GJ ht h;exact⟨out,h,N (by rw[J];exact hx) (by unfold Ic;rw[J];exact hm)⟩
  |false=>rw[hx]at h;exact plain (by rw[J];exact hx) h
 ·rename_i t len parts J;cases own with
  |true=>
   obtain⟨out,h,hm⟩:=MB ht V h;exact⟨out,h,N (by rw[J];rfl) (by unfold Ic;rw[J];exact hm)⟩
  |false=>exact plain (by rw[J];rfl) h
 ·rename_i t l c J;cases own with
  |true=>
   simp only[yg]at h;obtain⟨l',hl,h,_⟩:=aU V h;obtain⟨c',hc,h,_⟩:=aU V h;obtain⟨out,h,hm⟩:=Ox (mem:=mem) ht hl hc h;exact⟨out,h,N (by rw[J];rfl) (by unfold Ic;rw[J];exact hm)⟩
  |false=>exact plain (by rw[J];rfl) h
 ·rename_i t a J;obtain⟨v,Z,h,_⟩:=aU V h;have M:bQ own (cC tmps) (aB mem) o.op=Hw mem v:=by rw[J];show m7 _ _ _=_;rw[CX Z,Iu]
  cases U:Hw mem v with
  |true=>
   rw[U]at h M;obtain⟨out,h,hm⟩:=Oz ht h;exact⟨out,h,N M (by unfold Ic;rw[J];simp only[Z,yb];exact hm)⟩
  |false=>rw[U]at h M;exact plain M h
 ·rename_i t a x J;obtain⟨v,Z,h,_⟩:=aU V h;have M:bQ own (cC tmps) (aB mem) o.op=Hw mem v:=by rw[J];show m7 _ _ _=_;rw[CX Z,Iu]
  cases U:Hw mem v with
  |true=>
   rw[U]at h M;simp only[yg]at h;obtain⟨x',hx,h,_⟩:=aU V h;obtain⟨out,h,hm⟩:=Ma ht h;exact⟨out,h,N M (by unfold Ic;rw[J];simp only[Z,hx,yb];exact hm)⟩
  |false=>rw[U]at h M;exact plain M h
 ·rename_i t x lo hi' mx J;obtain⟨v,Z,h,_⟩:=aU V h;have M:bQ own (cC tmps) (aB mem) o.op=Aw mem v:=by rw[J];show m7 _ _ _=_;rw[CX Z,Co]
  cases U:Aw mem v with
  |true=>
   rw[U]at h M;simp only[yg]at h;obtain⟨lo,hlo,h⟩:=qV V h;obtain⟨hi2,hhi,h⟩:=qV V h;obtain⟨mx,hmx,h⟩:=qV V h;obtain⟨out,h,hm⟩:=ML ht h;exact⟨out,h,N M (by unfold Ic;rw[J];simp only[Z,hlo,hhi,hmx,yb];exact hm)⟩
  |false=>rw[U]at h M;exact plain M h
 ·rename_i t x ix J;obtain⟨v,Z,h,_⟩:=aU V h;have M:bQ own (cC tmps) (aB mem) o.op=Aw mem v:=by rw[J];show m7 _ _ _=_;rw[CX Z,Co]
  cases U:Aw mem v with
  |true=>
   rw[U]at h M;simp only[yg]at h;obtain⟨iv,hiv,h,_⟩:=aU V h;split at h
   ·rename_i kd i;obtain⟨out,h,hm⟩:=Mn ht h;exact⟨out,h,N M (by unfold Ic;rw[J];simp only[Z,hiv,yb];exact hm)⟩
   ·cases h
  |false=>rw[U]at h M;exact plain M h
 ·rename_i c J;split at h
  ·rename_i O;obtain⟨args,H,h,_⟩:=lW V h;split at h
   ·rename_i t x hts _hgn;have M:bQ own (cC tmps) (aB mem) o.op=O4 mem x:=by
     rw[J]
     show(match c.callee,c.args.toList with
      | .builtin .len,[x]=>m7 (cC tmps) (JQ (aB mem)) x
      | .builtin .append,[x,_]=>own||m7 (cC tmps) (A0 (aB mem)) x
      |_,_=>false)=_
     rw[O];cases hl:c.args.toList with
     |nil=>rw[hl]at H;cases H
     |cons a as=>
      rw[hl]at H;simp only[oZ,FJ,KV.downs]at H;obtain⟨w,hw,H⟩:=H;rw[ye]at H;obtain⟨ws,K,e⟩:=H;obtain⟨rfl,rfl⟩:=yb1 e;cases as with
      |cons b bs=>
       simp only[oZ,FJ]at K;obtain⟨_,_,K⟩:=K;rw[ye]at K;obtain⟨_,_,e⟩:=K;cases e
      |nil=>simp only;rw[CX hw,Q2]
    cases U:O4 mem x with
    |true=>
     rw[U]at h M;obtain⟨out,h,hm⟩:=P7 ht h;refine⟨out,h,N M ?_⟩;unfold Ic;rw[J];simp only[H,yb,O,KV.downs,hts,mP];exact hm
    |false=>rw[U]at h M;exact plain M h
   ·rename_i args _ _ hno _hgn;have Y:=h;obtain⟨out,h,hop'⟩:=Ph ht hC V h;exfalso
    -- the operation answers nothing at other numbers of arguments
    unfold Lc at Y;rw[J]at Y;simp only[O]at Y;obtain⟨args2,W,Y,_⟩:=lW V Y;unfold Br at Y;simp only at Y;split at Y
    ·rename_i t x hts _;rw[H]at W;have: ∃y,args= [y]:=by
      have e:=ya W;cases args with
      |nil=>cases e
      |cons y ys=>cases ys with
       |nil=>exact⟨y,rfl⟩
       |cons z zs=>simp[KV.downs]at e
     obtain⟨y,rfl⟩:=this;exact hno _ _ hts rfl
    ·cases Y
  ·rename_i O;obtain⟨args,H,h,_⟩:=lW V h;split at h
   ·rename_i t tx x y hts _hgn;have M:bQ own (cC tmps) (aB mem) o.op=(own||Aw mem x):=by
     rw[J]
     show(match c.callee,c.args.toList with
      | .builtin .len,[x]=>m7 (cC tmps) (JQ (aB mem)) x
      | .builtin .append,[x,_]=>own||m7 (cC tmps) (A0 (aB mem)) x
      |_,_=>false)=_
     rw[O];cases hl:c.args.toList with
     |nil=>rw[hl]at H;cases H
     |cons a as=>
      rw[hl]at H;simp only[oZ,FJ,KV.downs]at H;obtain⟨w,hw,H⟩:=H;rw[ye]at H;obtain⟨ws,K,e⟩:=H;obtain⟨rfl,rfl⟩:=yb1 e;cases as with
      |nil=>cases K
      |cons b bs=>cases bs with
       |nil=>simp only;rw[CX hw,Co]
       |cons b' bs=>
        simp only[oZ,FJ]at K;obtain⟨_,_,K⟩:=K;rw[ye]at K;obtain⟨_,K,e⟩:=K;rw[FJ]at K;obtain⟨_,_,K⟩:=K;rw[ye]at K;obtain⟨_,_,e2⟩:=K;subst e2;cases e
    cases U:own||Aw mem x with
    |true=>
     rw[U]at h M;obtain⟨out,h,hm⟩:=J2 ht h;refine⟨out,h,N M ?_⟩;unfold Ic;rw[J];simp only[H,yb,O,KV.downs,hts,mP];exact hm
    |false=>rw[U]at h M;exact plain M h
   ·cases h
  ·rename_i h1 Y;refine plain ?_ h;rw[J]
   show(match c.callee,c.args.toList with
    | .builtin .len,[x]=>m7 (cC tmps) (JQ (aB mem)) x
    | .builtin .append,[x,_]=>own||m7 (cC tmps) (A0 (aB mem)) x
    |_,_=>false)=_
   split
   ·rename_i e _;exact(h1 e).elim
   ·rename_i e _;exact(Y e).elim
   ·rfl
 ·rename_i g1 g2 g3 g4 g5 g6 g7 g8 g9;refine plain ?_ h;unfold bQ;split<;>first
   |rfl
   |(rename_i e;exact(g1 _ e).elim)
   |(rename_i e;exact(g2 _ e).elim)
   |(rename_i e;exact(g3 _ _ _ e).elim)
   |(rename_i e;exact(g4 _ _ _ e).elim)
   |(rename_i e;exact(g5 _ _ e).elim)
   |(rename_i e;exact(g6 _ _ _ e).elim)
   |(rename_i e;exact(g7 _ _ _ _ _ e).elim)
   |(rename_i e;exact(g8 _ _ _ e).elim)
   |(rename_i e;exact(g9 _ e).elim)
end
end Go.Ab
