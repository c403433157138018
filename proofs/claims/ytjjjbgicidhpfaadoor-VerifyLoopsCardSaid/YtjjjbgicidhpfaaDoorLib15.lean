import Derived.Test.YtjjjbgicidhpfaaDoorLib14
set_option linter.unusedVariables false
set_option linter.unusedSectionVars false
set_option linter.unusedSimpArgs false
namespace Go.Ab
variable [b3]
section
variable {P:Program} {R:Type} {r:R} {mem:aE} {tab:TypeId->Option TI}
def jG(β:Bool)(v:KV)(q:PV):Prop:=
 (∃k n,v= .lit (.int k n)/\q= .lit (.int k n))\/(∃b,v= .lit (.bool b)/\q= .lit (.bool b))\/(∃s,v= .lit (.string s)/\q= .lit (.string s))\/(∃ag T xs,v= .tsl β ag T xs/\q=c8 ag T xs)
theorem o9(β:Bool)(a b:Ty)(x:den (.cons a b)):cellsOf β (.cons a b) x=cellsOf β a (Prod.fst x)++cellsOf β b (Prod.snd x):=rfl
theorem iZ{β:Bool}: ∀{T:Ty} {x:den T},(cellsOf β T x).length=T.size/\∀(j:Nat) (v:KV),(cellsOf β T x)[j]?=some v->∃q,(aO T x)[j]?=some q/\jG β v q
 | .int k,x=>⟨rfl,λj v h=>by
  cases j with
  |zero=>obtain rfl:=ya h;exact⟨_,rfl,.inl ⟨k,x,rfl,rfl⟩⟩
  |succ j=>cases h⟩
 | .bool,x=>⟨rfl,λj v h=>by
  cases j with
  |zero=>obtain rfl:=ya h;exact⟨_,rfl,.inr (.inl ⟨x,rfl,rfl⟩)⟩
  |succ j=>cases h⟩
 | .str,x=>⟨rfl,λj v h=>by
  cases j with
  |zero=>obtain rfl:=ya h;exact⟨_,rfl,.inr (.inr (.inl ⟨x,rfl,rfl⟩))⟩
  |succ j=>cases h⟩
 | .sl ag T,x=>⟨rfl,λj v h=>by
  cases j with
  |zero=>obtain rfl:=ya h;exact⟨_,rfl,.inr (.inr (.inr ⟨ag,T,x,rfl,rfl⟩))⟩
  |succ j=>cases h⟩
 | .cons a b,x=>by
  have H:=iZ (β:=β) (T:=a) (x:=Prod.fst x);have I:=iZ (β:=β) (T:=b) (x:=Prod.snd x);refine⟨by rw[o9,ym1,H.1,I.1];rfl,λj v h=>?_⟩;rw[o9]at h;simp only[aO];by_cases J:j<a.size
  ·rw[yn (by rw[H.1];exact J)]at h;rw[yn (by rw[bN];exact J)];exact H.2 j v h
  ·rw[yu (by rw[H.1];omega)]at h;rw[yu (by rw[bN];omega)];rw[H.1]at h;rw[bN];exact I.2 _ v h
theorem dM: ∀{T:Ty} {ls:List LK},aZ P T ls=true->ls.length=T.size
 | .int k,ls,h=>by simp only[aZ]at h;split at h<;>first|rfl|cases h
 | .bool,ls,h=>by simp only[aZ]at h;split at h<;>first|rfl|cases h
 | .str,ls,h=>by simp only[aZ]at h;split at h<;>first|rfl|cases h
 | .sl ag T,ls,h=>by simp only[aZ]at h;split at h<;>first|rfl|cases h
 | .cons a b,ls,h=>by
  simp only[aZ]at h;split at h
  ·rename_i l ls;simp only[yb]at h;have h1:=dM h.2;have h0:=nb.1 h.1.1;show ls.length+1=a.size+b.size;omega
  ·cases h
theorem Iq(β:Bool)(k:IntKind)(xs:List Int):fC β (.ints k) (.ints k xs)=some (.imm β (.ints k xs)):=by
 simp[fC,PV.ints?,qK.2]
theorem rM{β:Bool}{T:Ty}{l:LK}{v:KV}{q:PV}(H:aZ P T [l]=true)(I:gM T v=true)(N:jG β v q):fC β l q=some v.down:=by
 cases T with
 |int k=>
  obtain⟨O,n,rfl⟩:=Dd I;simp only[aZ]at H;split at H
  ·rename_i k2 J;obtain rfl:=(yx J).1;obtain rfl:=qK.1 H;rcases N with ⟨M,K,h,rfl⟩|⟨b,h,_⟩|⟨s,h,_⟩|⟨ag,T,xs,h,_⟩
   ·obtain⟨rfl,rfl⟩:=(by simpa using h:O=M/\n=K)
    have U:fY k O=true:=I;obtain rfl:=qK.1 U;simp[fC,PV.int?,KV.down,qK.2]
   ·cases h
   ·cases h
   ·cases h
  ·cases H
 |bool=>
  obtain⟨n,rfl⟩:=A6 I;simp only[aZ]at H;split at H
  ·rename_i J;obtain rfl:=(yx J).1;rcases N with ⟨M,K,h,rfl⟩|⟨b,h,rfl⟩|⟨s,h,_⟩|⟨ag,T,xs,h,_⟩
   ·cases h
   ·obtain rfl:=(by simpa using h:n=b)
    simp[fC,PV.bool?,KV.down]
   ·cases h
   ·cases h
  ·cases H
 |str=>
  obtain⟨n,rfl⟩:=Dm I;simp only[aZ]at H;split at H
  ·rename_i J;obtain rfl:=(yx J).1;rcases N with ⟨M,K,h,rfl⟩|⟨b,h,rfl⟩|⟨s,h,rfl⟩|⟨ag,T,xs,h,_⟩
   ·cases h
   ·cases h
   ·obtain rfl:=(by simpa using h:n=s)
    simp[fC,PV.str?,KV.down]
   ·cases h
  ·cases H
 |sl ag T=>
  rcases N with ⟨M,K,rfl,_⟩|⟨b,rfl,_⟩|⟨s,rfl,_⟩|⟨V,T',xs,rfl,rfl⟩
  ·cases I
  ·cases I
  ·cases I
  ·simp only[gM,yb]at I;obtain rfl:=HS.1 I.1;obtain rfl:=Ty.beq_iff.1 I.2;simp only[aZ]at H;split at H
   ·rename_i k J;obtain rfl:=(yx J).1;cases ag with
    |true=>simp at H
    |false=>
     cases T with
     |int O=>
      simp only at H;obtain rfl:=qK.1 H;exact Iq β k xs
     |_=>simp at H
   ·rename_i t e J;obtain rfl:=(yx J).1;simp only[yb,yq]at H;obtain rfl:=nb.1 H.1.1.1.1;rw[show KV.down (.tsl β ag T xs)= .imm β (c8 ag T xs)from rfl,bU H.1.1.1.2];simp[fC,PV.sl?]
   ·cases H
 |cons a b=>cases v<;>cases I
theorem e7{a:Ty}(h:a.size=1):cM a= [a]:=by
 rcases vZ h with ⟨k,rfl⟩|rfl|rfl|⟨ag,T,rfl⟩<;>rfl
theorem nX{β:Bool}{qs:List PV}: ∀{T:Ty} {ls:List LK} {vs:List KV} {c:Nat},aZ P T ls=true->aU (cM T) vs=true->(∀(j:Nat) (v:KV),vs[j]?=some v->∃q,qs[c+j]?=some q/\jG β v q)->
  fT β qs ls c=some (KV.downs vs)
 | .cons a b,ls,vs,c,I,H,J=>by
  simp only[aZ]at I;split at I
  ·rename_i l ls;simp only[yb]at I;obtain⟨⟨N,O⟩,U⟩:=I;simp only[cM,e7 (nb.1 N),List.singleton_append]at H;cases vs with
   |nil=>cases H
   |cons v vs=>
    simp only[aU,yb]at H;obtain⟨q,K,M⟩:=J 0 v rfl;have W:=nX (β:=β) (qs:=qs) (c:=c+1) U H.2 (λj v Z=>by
     obtain⟨q,N,Y⟩:=J (j+1) v (by simpa using Z);exact⟨q,by rw[show c+1+j=c+(j+1) by omega];exact N,Y⟩)
    rw[yk1]at K;simp[fT,K,rM O H.1 M,W,KV.downs]
  ·cases I
 | .int k,ls,vs,c,I,H,J=>rdLeaves_one rfl I H J
 | .bool,ls,vs,c,I,H,J=>rdLeaves_one rfl I H J
 | .str,ls,vs,c,I,H,J=>rdLeaves_one rfl I H J
 | .sl ag T,ls,vs,c,I,H,J=>rdLeaves_one rfl I H J
 where
 rdLeaves_one {β:Bool} {qs:List PV} {T:Ty} {ls:List LK} {vs:List KV} {c:Nat} (N:T.size=1) (I:aZ P T ls=true) (H:aU (cM T) vs=true) (J: ∀(j:Nat) (v:KV),vs[j]?=some v->∃q,qs[c+j]?=some q/\jG β v q):
   fT β qs ls c=some (KV.downs vs):=by
  have V:=dM I;rw[N]at V;obtain⟨l,rfl⟩:=ye2.1 V;rw[e7 N]at H;cases vs with
  |nil=>cases H
  |cons v vs=>
   cases vs with
   |cons v2 vs=>simp[aU]at H
   |nil=>
    simp only[aU,yd3]at H;obtain⟨q,K,M⟩:=J 0 v rfl;rw[yk1]at K;simp[fT,K,rM I H M,KV.downs]
theorem Ll{t:TypeId}{M:TI}(ht:bT P t M){β:Bool}{T:Ty}{x:den T}{p:PV}{c:Nat}{k:KV->Option R}(hp:p.cells=aO T x)
  (h:Cu M (((cellsOf β T x).drop c).take M.n) k=some r): ∃v,k v=some r/\Lu P β t p c=some v.down:=by
 unfold Cu at h;split at h
 ·rename_i T' O;rw[bP]at h;obtain⟨hl,h⟩:=h;obtain⟨⟨ls,J,Y⟩,hn,Z,_⟩:=ht.ty T' O;have W: ∀(j:Nat) (v:KV),(((cellsOf β T x).drop c).take M.n)[j]?=some v->∃q,p.cells[c+j]?=some q/\jG β v q:=by
   intro j v K;rw[yi1]at K;split at K
   ·rw[yz]at K;rw[hp];exact(iZ (β:=β) (x:=x)).2 _ v K
   ·cases K
  have hr:=nX (P:=P) (c:=c) Y hl W;cases N:M.ag with
  |true=>
   rw[N]at h;simp only[yl]at h;refine⟨_,h,?_⟩;unfold Lu;have I:=ht.ag;rw[N]at I;simp only[I,J,ye,ht.n,dS,dM Y,hn,hr,KV.down];simp
  |false=>
   rw[N]at h;simp only[yj]at h;have I:=ht.ag;rw[N]at I;obtain⟨l,V,rfl⟩:=eP I J;split at h
   ·rename_i v hv;refine⟨v,h,?_⟩;rw[hv]at hr W;obtain⟨q,H,hcp⟩:=W 0 v rfl;rw[yk1]at H;unfold Lu;simp only[I,V,ye,H];simp only[fT,H,ye,KV.downs]at hr;rw[Cy]at hr;obtain⟨a,U,hr⟩:=hr;rw[U];exact congrArg some (yx (ya hr)).1
   ·cases h
 ·cases h
theorem C9{sC:Nat}{k:KV->Option R}: ∀{cs:List KV} {j:Nat},MP (aQ R) sC cs j k=some r->∃v,j≤sC/\cs[sC-j]?=some v/\k v=some r
 | [],j,h=>by cases h
 |v::cs,j,h=>by
  simp only[MP,real_ite]at h;cases H:Nat.beq sC j with
  |true=>
   rw[H]at h;simp only[yl]at h;obtain rfl:=nb.1 H;exact⟨v,ya1 _,by simp,h⟩
  |false=>
   rw[H]at h;simp only[yj]at h;obtain⟨w,hj,J,I⟩:=C9 h;exact⟨w,by omega,by rw[show sC-j=(sC-(j+1))+1 by omega];simpa using J,I⟩
theorem BB{sC:Nat}{v:KV}{H:List KV}{k:List KV->Option R}: ∀{cs:List KV} {j:Nat},Cr (aQ R) sC v H cs j k=some r->j≤sC/\sC<j+cs.length/\k (H.set sC v)=some r
 | [],j,h=>by cases h
 |_::cs,j,h=>by
  simp only[Cr,real_ite]at h;cases I:Nat.beq sC j with
  |true=>
   rw[I]at h;simp only[yl]at h;obtain rfl:=nb.1 I;rw[dE]at h;exact⟨ya1 _,by simp,h⟩
  |false=>
   rw[I]at h;simp only[yj]at h;obtain⟨h1,h2,J⟩:=BB h;exact⟨by omega,by simp only[ym2];omega,J⟩
theorem lJ{cs:List KV}{i:Nat}{v:KV}(h:cs[i]?=some v):(KV.downs cs)[i]?=some v.down:=by rw[cC,yc1,h];rfl
theorem MF{t:TypeId}{m:aK}{b g i:Nat}{H:bG}{I:IntKind}{xs:List Int}{x:Int}(K:box? m b g=some H)(hr:H.row= .ints I xs)(J:isAgg? P t=some false)(M:xs[i]?=some x):
  iA P t m (.ptr b g i 0)=some {v:= .lit (.int I x),rd:= [b]}:=by
 simp[iA,K,hr,J,M,guardB]
theorem Gd(ht:bL P tab){t:TypeId}{a:KV}{k:a9->Option R}(h:KX (aQ R) tab t mem a k=some r): ∃out,k out=some r/\iA P t (aB mem) a.down=some out.down/\out.wr= []/\out.push= []:=by
 unfold KX at h;split at h
 ·rename_i ti hti;have H:=bT.of (ht _ _ hti);split at h
  ·rename_i β ag T x c;obtain⟨v,U,hr⟩:=Ll H (b4 (ag:=ag) (T:=T) (x:=x)) h;exact⟨_,U,by simp only[KV.down,iA,hr,yh];rfl,rfl,rfl⟩
  ·rename_i b g i c;obtain⟨N,M,h⟩:=bZ h;split at h
   ·rename_i e cs I;have O:N.down.row= .cells e (KV.downs cs):=by rw[show N.down.row=N.row.down from rfl,I];rfl
    cases V:ti.ag with
    |true=>
     rw[V]at h;simp only[yl]at h;rw[bP]at h;refine⟨_,h.2,?_,rfl,rfl⟩;have K:=H.ag;rw[V]at K;simp only[KV.down,iA,M,ye,O,K,yl,H.n,dS,aJ,h.1,true_and];simp[a9.down,KV.down,cC,yv2,yk3,aB]
    |false=>
     rw[V]at h;simp only[yj]at h;obtain⟨v,_,W,U⟩:=C9 h;refine⟨_,U,?_,rfl,rfl⟩;have K:=H.ag;rw[V]at K;rw[Nat.sub_zero]at W;simp only[KV.down,iA,M,ye,O,K,yj,lJ W,yh];rfl
   ·rename_i β ag T xs I;cases J:ti.ag&&aY ag T with
    |true=>rw[J]at h;cases h
    |false=>
     rw[J]at h;simp only[yj,real_getN]at h;rw[Cy]at h;obtain⟨x,hx,h⟩:=h;obtain⟨v,U,hr⟩:=Ll H (b4 (ag:=ag) (T:=T) (x:=x)) h;refine⟨_,U,?_,rfl,rfl⟩;have O:N.down.row=(KRow.ts β ag T xs).down:=by rw[show N.down.row=N.row.down from rfl,I]
     cases Y:aY ag T with
     |false=>
      rw[KRow.down_sl Y]at O;simp only[KV.down,iA,M,ye,O,yc1,hx,yh,hr];rfl
     |true=>
      obtain⟨rfl,kk,rfl⟩:=aN.1 Y;rw[Y,yd3]at J;have K:=H.ag;rw[J]at K;have hc:c=0/\v.down= .lit (.int kk x):=by
       unfold Lu at hr;simp only[K]at hr;rw[Cy]at hr;obtain⟨l,hl,hr⟩:=hr;rw[Cy]at hr;obtain⟨q,hq,hr⟩:=hr;rw[b4]at hq;cases c with
       |succ c=>cases hq
       |zero=>
        obtain rfl:=ya hq;refine⟨rfl,?_⟩;cases l<;>simp only[fC,PV.int?,PV.bool?,PV.str?,PV.ints?,PV.sl?,Option.bind_none]at hr<;>first|cases hr|skip
        rw[Cy]at hr;obtain⟨y,Z,hr⟩:=hr;rw[bP]at Z;obtain rfl:=qK.1 Z.1;obtain rfl:=ya Z.2;exact(ya hr).symm
      obtain⟨rfl,W⟩:=hc;have:=MF (g:=g) M (show N.down.row= .ints kk xs from O) K (show(xs:List Int)[i]?=some x from hx);rw[show KV.down (.ptr b g i 0)= .ptr b g i 0 from rfl,this];simp[a9.down,W,aB]
   ·cases h
  ·cases h
 ·cases h
end
end Go.Ab
