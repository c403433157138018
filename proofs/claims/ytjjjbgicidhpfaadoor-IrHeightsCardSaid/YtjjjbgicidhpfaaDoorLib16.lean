import Derived.Test.YtjjjbgicidhpfaaDoorLib15
set_option linter.unusedVariables false
set_option linter.unusedSectionVars false
set_option linter.unusedSimpArgs false
namespace Go.Ab
variable [cS]
section
variable {P:Program} {R:Type} {r:R} {mem:aH} {tab:TypeId->Option TI}
def nA(β:Bool)(v:KV)(q:PV):Prop:=
 (∃k n,v= .lit (.int k n)/\q= .lit (.int k n))\/(∃b,v= .lit (.bool b)/\q= .lit (.bool b))\/(∃s,v= .lit (.string s)/\q= .lit (.string s))\/(∃ag T xs,v= .tsl β ag T xs/\q=eJ ag T xs)
theorem wS(β:Bool)(a b:Ty)(x:den (.cons a b)):cellsOf β (.cons a b) x=cellsOf β a (Prod.fst x)++cellsOf β b (Prod.snd x):=rfl
theorem mL{β:Bool}: ∀{T:Ty} {x:den T},(cellsOf β T x).length=T.size/\∀(j:Nat) (v:KV),(cellsOf β T x)[j]?=some v->∃q,(aV T x)[j]?=some q/\nA β v q
 | .int k,x=>⟨rfl,λj v h=>by
  cases j with
  |zero=>obtain rfl:=yb h;exact⟨_,rfl,.inl ⟨k,x,rfl,rfl⟩⟩
  |succ j=>cases h⟩
 | .bool,x=>⟨rfl,λj v h=>by
  cases j with
  |zero=>obtain rfl:=yb h;exact⟨_,rfl,.inr (.inl ⟨x,rfl,rfl⟩)⟩
  |succ j=>cases h⟩
 | .str,x=>⟨rfl,λj v h=>by
  cases j with
  |zero=>obtain rfl:=yb h;exact⟨_,rfl,.inr (.inr (.inl ⟨x,rfl,rfl⟩))⟩
  |succ j=>cases h⟩
 | .sl ag T,x=>⟨rfl,λj v h=>by
  cases j with
  |zero=>obtain rfl:=yb h;exact⟨_,rfl,.inr (.inr (.inr ⟨ag,T,x,rfl,rfl⟩))⟩
  |succ j=>cases h⟩
 | .cons a b,x=>by
  have H:=mL (β:=β) (T:=a) (x:=Prod.fst x);have J:=mL (β:=β) (T:=b) (x:=Prod.snd x);refine⟨by rw[wS,yi,H.1,J.1];rfl,λj v h=>?_⟩;rw[wS]at h;simp only[aV];by_cases K:j<a.size
  ·rw[yq (by rw[H.1];exact K)]at h;rw[yq (by rw[cD];exact K)];exact H.2 j v h
  ·rw[yy (by rw[H.1];omega)]at h;rw[yy (by rw[cD];omega)];rw[H.1]at h;rw[cD];exact J.2 _ v h
theorem e6: ∀{T:Ty} {ls:List LK},bE P T ls=true->ls.length=T.size
 | .int k,ls,h=>by simp only[bE]at h;split at h<;>first|rfl|cases h
 | .bool,ls,h=>by simp only[bE]at h;split at h<;>first|rfl|cases h
 | .str,ls,h=>by simp only[bE]at h;split at h<;>first|rfl|cases h
 | .sl ag T,ls,h=>by simp only[bE]at h;split at h<;>first|rfl|cases h
 | .cons a b,ls,h=>by
  simp only[bE]at h;split at h
  ·rename_i l ls;simp only[yc]at h;have h1:=e6 h.2;have h0:=nb.1 h.1.1;show ls.length+1=a.size+b.size;omega
  ·cases h
theorem Nh(β:Bool)(k:IntKind)(xs:List Int):iO β (.ints k) (.ints k xs)=some (.imm β (.ints k xs)):=by
 simp[iO,PV.ints?,yR.2]
theorem y5{β:Bool}{T:Ty}{l:LK}{v:KV}{q:PV}(hc:bE P T [l]=true)(H:kX T v=true)(M:nA β v q):iO β l q=some v.down:=by
 cases T with
 |int k=>
  obtain⟨N,n,rfl⟩:=Ia H;simp only[bE]at hc;split at hc
  ·rename_i k2 J;obtain rfl:=(yd1 J).1;obtain rfl:=yR.1 hc;rcases M with ⟨K,n3,h,rfl⟩|⟨b,h,_⟩|⟨s,h,_⟩|⟨ag,T,xs,h,_⟩
   ·obtain⟨rfl,rfl⟩:=(by simpa using h:N=K/\n=n3)
    have O:jS k N=true:=H;obtain rfl:=yR.1 O;simp[iO,PV.int?,KV.down,yR.2]
   ·cases h
   ·cases h
   ·cases h
  ·cases hc
 |bool=>
  obtain⟨n,rfl⟩:=FP H;simp only[bE]at hc;split at hc
  ·rename_i J;obtain rfl:=(yd1 J).1;rcases M with ⟨K,n3,h,rfl⟩|⟨b,h,rfl⟩|⟨s,h,_⟩|⟨ag,T,xs,h,_⟩
   ·cases h
   ·obtain rfl:=(by simpa using h:n=b)
    simp[iO,PV.bool?,KV.down]
   ·cases h
   ·cases h
  ·cases hc
 |str=>
  obtain⟨n,rfl⟩:=H0 H;simp only[bE]at hc;split at hc
  ·rename_i J;obtain rfl:=(yd1 J).1;rcases M with ⟨K,n3,h,rfl⟩|⟨b,h,rfl⟩|⟨s,h,rfl⟩|⟨ag,T,xs,h,_⟩
   ·cases h
   ·cases h
   ·obtain rfl:=(by simpa using h:n=s)
    simp[iO,PV.str?,KV.down]
   ·cases h
  ·cases hc
 |sl ag T=>
  rcases M with ⟨K,n3,rfl,_⟩|⟨b,rfl,_⟩|⟨s,rfl,_⟩|⟨U,T',xs,rfl,rfl⟩
  ·cases H
  ·cases H
  ·cases H
  ·simp only[kX,yc]at H;obtain rfl:=MP.1 H.1;obtain rfl:=Ty.beq_iff.1 H.2;simp only[bE]at hc;split at hc
   ·rename_i k J;obtain rfl:=(yd1 J).1;cases ag with
    |true=>simp at hc
    |false=>
     cases T with
     |int N=>
      simp only at hc;obtain rfl:=yR.1 hc;exact Nh β k xs
     |_=>simp at hc
   ·rename_i t e J;obtain rfl:=(yd1 J).1;simp only[yc,yx]at hc;obtain rfl:=nb.1 hc.1.1.1.1;rw[show KV.down (.tsl β ag T xs)= .imm β (eJ ag T xs)from rfl,cO hc.1.1.1.2];simp[iO,PV.sl?]
   ·cases hc
 |cons a b=>cases v<;>cases H
theorem iM{a:Ty}(h:a.size=1):dO a= [a]:=by
 rcases Bv h with ⟨k,rfl⟩|rfl|rfl|⟨ag,T,rfl⟩<;>rfl
theorem sC{β:Bool}{qs:List PV}: ∀{T:Ty} {ls:List LK} {vs:List KV} {c:Nat},bE P T ls=true->a9 (dO T) vs=true->(∀(j:Nat) (v:KV),vs[j]?=some v->∃q,qs[c+j]?=some q/\nA β v q)->
  jE β qs ls c=some (KV.downs vs)
 | .cons a b,ls,vs,c,hc,H,J=>by
  simp only[bE]at hc;split at hc
  ·rename_i l ls;simp only[yc]at hc;obtain⟨⟨N,U⟩,O⟩:=hc;simp only[dO,iM (nb.1 N),List.singleton_append]at H;cases vs with
   |nil=>cases H
   |cons v vs=>
    simp only[a9,yc]at H;obtain⟨q,K,M⟩:=J 0 v rfl
    have Z:=sC (β:=β) (qs:=qs) (c:=c+1) O H.2 (λj v W=>by
     obtain⟨q,N,Y⟩:=J (j+1) v (by simpa using W)
     exact⟨q,by rw[show c+1+j=c+(j+1) by omega];exact N,Y⟩)
    rw[ya2]at K;simp[jE,K,y5 U H.1 M,Z,KV.downs]
  ·cases hc
 | .int k,ls,vs,c,hc,H,J=>rdLeaves_one rfl hc H J
 | .bool,ls,vs,c,hc,H,J=>rdLeaves_one rfl hc H J
 | .str,ls,vs,c,hc,H,J=>rdLeaves_one rfl hc H J
 | .sl ag T,ls,vs,c,hc,H,J=>rdLeaves_one rfl hc H J
 where
 rdLeaves_one {β:Bool} {qs:List PV} {T:Ty} {ls:List LK} {vs:List KV} {c:Nat} (N:T.size=1) (hc:bE P T ls=true) (H:a9 (dO T) vs=true) (J: ∀(j:Nat) (v:KV),vs[j]?=some v->∃q,qs[c+j]?=some q/\nA β v q):
   jE β qs ls c=some (KV.downs vs):=by
  have V:=e6 hc;rw[N]at V;obtain⟨l,rfl⟩:=yw2.1 V;rw[iM N]at H;cases vs with
  |nil=>cases H
  |cons v vs=>
   cases vs with
   |cons v2 vs=>simp[a9]at H
   |nil=>
    simp only[a9,ya4]at H;obtain⟨q,K,M⟩:=J 0 v rfl;rw[ya2]at K;simp[jE,K,y5 hc H M,KV.downs]
theorem Rc{t:TypeId}{M:TI}(ht:cH P t M){β:Bool}{T:Ty}{x:den T}{p:PV}{c:Nat}{k:KV->Option R}(hp:p.cells=aV T x)
  (h:Ht M (((cellsOf β T x).drop c).take M.n) k=some r): ∃v,k v=some r/\QS P β t p c=some v.down:=by
 unfold Ht at h;split at h
 ·rename_i T' V;rw[cJ]at h;obtain⟨hl,h⟩:=h;obtain⟨⟨ls,N,hc⟩,hn,Z,_⟩:=ht.ty T' V;have Y: ∀(j:Nat) (v:KV),(((cellsOf β T x).drop c).take M.n)[j]?=some v->∃q,p.cells[c+j]?=some q/\nA β v q:=by
   intro j v K;rw[yy1]at K;split at K
   ·rw[yg1]at K;rw[hp];exact(mL (β:=β) (x:=x)).2 _ v K
   ·cases K
  have hr:=sC (P:=P) (c:=c) hc hl Y;cases O:M.ag with
  |true=>
   rw[O]at h;simp only[yh]at h;refine⟨_,h,?_⟩;unfold QS;have J:=ht.ag;rw[O]at J;simp only[J,N,ya,ht.n,e9,e6 hc,hn,hr,KV.down];simp
  |false=>
   rw[O]at h;simp only[yg]at h;have J:=ht.ag;rw[O]at J;obtain⟨l,U,rfl⟩:=gO J N;split at h
   ·rename_i v hv;refine⟨v,h,?_⟩;rw[hv]at hr Y;obtain⟨q,H,hcp⟩:=Y 0 v rfl;rw[ya2]at H;unfold QS;simp only[J,U,ya,H];simp only[jE,H,ya,KV.downs]at hr;rw[Hx]at hr;obtain⟨a,W,hr⟩:=hr;rw[W];exact congrArg some (yd1 (yb hr)).1
   ·cases h
 ·cases h
theorem IX{As:Nat}{k:KV->Option R}: ∀{cs:List KV} {j:Nat},Ua (aZ R) As cs j k=some r->∃v,j≤As/\cs[As-j]?=some v/\k v=some r
 | [],j,h=>by cases h
 |v::cs,j,h=>by
  simp only[Ua,real_ite]at h;cases H:Nat.beq As j with
  |true=>
   rw[H]at h;simp only[yh]at h;obtain rfl:=nb.1 H;exact⟨v,yb1 _,by simp,h⟩
  |false=>
   rw[H]at h;simp only[yg]at h;obtain⟨w,hj,J,K⟩:=IX h;exact⟨w,by omega,by rw[show As-j=(As-(j+1))+1 by omega];simpa using J,K⟩
theorem Gt{As:Nat}{v:KV}{H:List KV}{k:List KV->Option R}: ∀{cs:List KV} {j:Nat},Hv (aZ R) As v H cs j k=some r->j≤As/\As<j+cs.length/\k (H.set As v)=some r
 | [],j,h=>by cases h
 |_::cs,j,h=>by
  simp only[Hv,real_ite]at h;cases J:Nat.beq As j with
  |true=>
   rw[J]at h;simp only[yh]at h;obtain rfl:=nb.1 J;rw[eS]at h;exact⟨yb1 _,by simp,h⟩
  |false=>
   rw[J]at h;simp only[yg]at h;obtain⟨h1,h2,K⟩:=Gt h;exact⟨by omega,by simp only[yw];omega,K⟩
theorem pR{cs:List KV}{i:Nat}{v:KV}(h:cs[i]?=some v):(KV.downs cs)[i]?=some v.down:=by rw[dD,yh1,h];rfl
theorem RT{t:TypeId}{m:aO}{b g i:Nat}{J:bV}{H:IntKind}{xs:List Int}{x:Int}(K:box? m b g=some J)(hr:J.row= .ints H xs)(N:isAgg? P t=some false)(M:xs[i]?=some x):
  lI P t m (.ptr b g i 0)=some {v:= .lit (.int H x),rd:= [b]}:=by
 simp[lI,K,hr,N,M,guardB]
theorem KE(ht:b9 P tab){t:TypeId}{a:KV}{k:bK->Option R}(h:QN (aZ R) tab t mem a k=some r): ∃out,k out=some r/\lI P t (aD mem) a.down=some out.down/\out.wr= []/\out.push= []:=by
 unfold QN at h;split at h
 ·rename_i ti hti;have H:=cH.of (ht _ _ hti);split at h
  ·rename_i β ag T x c;obtain⟨v,V,hr⟩:=Rc H (cU (ag:=ag) (T:=T) (x:=x)) h;exact⟨_,V,by simp only[KV.down,lI,hr,yl];rfl,rfl,rfl⟩
  ·rename_i b g i c;obtain⟨O,M,h⟩:=cR h;split at h
   ·rename_i e cs J;have U:O.down.row= .cells e (KV.downs cs):=by rw[show O.down.row=O.row.down from rfl,J];rfl
    cases W:ti.ag with
    |true=>
     rw[W]at h;simp only[yh]at h;rw[cJ]at h;refine⟨_,h.2,?_,rfl,rfl⟩;have N:=H.ag;rw[W]at N;simp only[KV.down,lI,M,ya,U,N,yh,H.n,e9,aN,h.1,true_and];simp[bK.down,KV.down,dD,yp3,yh4,aD]
    |false=>
     rw[W]at h;simp only[yg]at h;obtain⟨v,_,Y,V⟩:=IX h;refine⟨_,V,?_,rfl,rfl⟩;have N:=H.ag;rw[W]at N;rw[Nat.sub_zero]at Y;simp only[KV.down,lI,M,ya,U,N,yg,pR Y,yl];rfl
   ·rename_i β ag T xs J;cases K:ti.ag&&bD ag T with
    |true=>rw[K]at h;cases h
    |false=>
     rw[K]at h;simp only[yg,real_getN]at h;rw[Hx]at h;obtain⟨x,hx,h⟩:=h;obtain⟨v,V,hr⟩:=Rc H (cU (ag:=ag) (T:=T) (x:=x)) h;refine⟨_,V,?_,rfl,rfl⟩;have U:O.down.row=(KRow.ts β ag T xs).down:=by rw[show O.down.row=O.row.down from rfl,J]
     cases Z:bD ag T with
     |false=>
      rw[KRow.down_sl Z]at U;simp only[KV.down,lI,M,ya,U,yh1,hx,yl,hr];rfl
     |true=>
      obtain⟨rfl,kk,rfl⟩:=aS.1 Z;rw[Z,ya4]at K;have N:=H.ag;rw[K]at N;have hc:c=0/\v.down= .lit (.int kk x):=by
       unfold QS at hr;simp only[N]at hr;rw[Hx]at hr;obtain⟨l,hl,hr⟩:=hr;rw[Hx]at hr;obtain⟨q,hq,hr⟩:=hr;rw[cU]at hq;cases c with
       |succ c=>cases hq
       |zero=>
        obtain rfl:=yb hq;refine⟨rfl,?_⟩;cases l<;>simp only[iO,PV.int?,PV.bool?,PV.str?,PV.ints?,PV.sl?,Option.bind_none]at hr<;>first|cases hr|skip
        rw[Hx]at hr;obtain⟨y,hy,hr⟩:=hr;rw[cJ]at hy;obtain rfl:=yR.1 hy.1;obtain rfl:=yb hy.2;exact(yb hr).symm
      obtain⟨rfl,Y⟩:=hc;have:=RT (g:=g) M (show O.down.row= .ints kk xs from U) N (show(xs:List Int)[i]?=some x from hx);rw[show KV.down (.ptr b g i 0)= .ptr b g i 0 from rfl,this];simp[bK.down,Y,aD]
   ·cases h
  ·cases h
 ·cases h
end
end Go.Ab
