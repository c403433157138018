import Derived.Test.YtjjjbgicidhpfaaDoorLib15
set_option linter.unusedVariables false
set_option linter.unusedSectionVars false
set_option linter.unusedSimpArgs false
namespace Go.Ab
variable [cF]
section
variable {P:Program} {R:Type} {r:R} {mem:aF} {tab:TypeId->Option TI}
def lI(β:Bool)(v:KV)(q:PV):Prop:=
 (∃k n,v= .lit (.int k n)/\q= .lit (.int k n))\/(∃b,v= .lit (.bool b)/\q= .lit (.bool b))\/(∃s,v= .lit (.string s)/\q= .lit (.string s))\/(∃ag T xs,v= .tsl β ag T xs/\q=dS ag T xs)
theorem sK(β:Bool)(a b:Ty)(x:den (.cons a b)):cellsOf β (.cons a b) x=cellsOf β a (Prod.fst x)++cellsOf β b (Prod.snd x):=rfl
theorem kH{β:Bool}: ∀{T:Ty} {x:den T},(cellsOf β T x).length=T.size/\∀(j:Nat) (v:KV),(cellsOf β T x)[j]?=some v->∃q,(aQ T x)[j]?=some q/\lI β v q
 | .int k,x=>⟨rfl,λj v h=>by
  cases j with
  |zero=>obtain rfl:=ya h;exact⟨_,rfl,.inl ⟨k,x,rfl,rfl⟩⟩
  |succ j=>cases h⟩
 | .bool,x=>⟨rfl,λj v h=>by
  cases j with
  |zero=>obtain rfl:=ya h;exact⟨_,rfl,.inr (.inl ⟨x,rfl,rfl⟩)⟩
  |succ j=>cases h⟩
 | .str,x=>⟨rfl,λj v h=>by
  cases j with
  |zero=>obtain rfl:=ya h;exact⟨_,rfl,.inr (.inr (.inl ⟨x,rfl,rfl⟩))⟩
  |succ j=>cases h⟩
 | .sl ag T,x=>⟨rfl,λj v h=>by
  cases j with
  |zero=>obtain rfl:=ya h;exact⟨_,rfl,.inr (.inr (.inr ⟨ag,T,x,rfl,rfl⟩))⟩
  |succ j=>cases h⟩
 | .cons a b,x=>by
  have H:=kH (β:=β) (T:=a) (x:=Prod.fst x);have J:=kH (β:=β) (T:=b) (x:=Prod.snd x);refine⟨by rw[sK,yi,H.1,J.1];rfl,λj v h=>?_⟩;rw[sK]at h;simp only[aQ];by_cases K:j<a.size
  ·rw[yq (by rw[H.1];exact K)]at h;rw[yq (by rw[bV];exact K)];exact H.2 j v h
  ·rw[yx (by rw[H.1];omega)]at h;rw[yx (by rw[bV];omega)];rw[H.1]at h;rw[bV];exact J.2 _ v h
theorem eF: ∀{T:Ty} {ls:List LK},a7 P T ls=true->ls.length=T.size
 | .int k,ls,h=>by simp only[a7]at h;split at h<;>first|rfl|cases h
 | .bool,ls,h=>by simp only[a7]at h;split at h<;>first|rfl|cases h
 | .str,ls,h=>by simp only[a7]at h;split at h<;>first|rfl|cases h
 | .sl ag T,ls,h=>by simp only[a7]at h;split at h<;>first|rfl|cases h
 | .cons a b,ls,h=>by
  simp only[a7]at h;split at h
  ·rename_i l ls;simp only[yc]at h;have h1:=eF h.2;have h0:=nb.1 h.1.1;show ls.length+1=a.size+b.size;omega
  ·cases h
theorem Mg(β:Bool)(k:IntKind)(xs:List Int):gJ β (.ints k) (.ints k xs)=some (.imm β (.ints k xs)):=by
 simp[gJ,PV.ints?,vO.2]
theorem wG{β:Bool}{T:Ty}{l:LK}{v:KV}{q:PV}(hc:a7 P T [l]=true)(H:jK T v=true)(K:lI β v q):gJ β l q=some v.down:=by
 cases T with
 |int k=>
  obtain⟨O,n,rfl⟩:=HH H;simp only[a7]at hc;split at hc
  ·rename_i k2 J;obtain rfl:=(yb1 J).1;obtain rfl:=vO.1 hc;rcases K with ⟨M,n3,h,rfl⟩|⟨b,h,_⟩|⟨s,h,_⟩|⟨ag,T,xs,h,_⟩
   ·obtain⟨rfl,rfl⟩:=(by simpa using h:O=M/\n=n3)
    have N:iK k O=true:=H;obtain rfl:=vO.1 N;simp[gJ,PV.int?,KV.down,vO.2]
   ·cases h
   ·cases h
   ·cases h
  ·cases hc
 |bool=>
  obtain⟨n,rfl⟩:=Cv H;simp only[a7]at hc;split at hc
  ·rename_i J;obtain rfl:=(yb1 J).1;rcases K with ⟨M,n3,h,rfl⟩|⟨b,h,rfl⟩|⟨s,h,_⟩|⟨ag,T,xs,h,_⟩
   ·cases h
   ·obtain rfl:=(by simpa using h:n=b)
    simp[gJ,PV.bool?,KV.down]
   ·cases h
   ·cases h
  ·cases hc
 |str=>
  obtain⟨n,rfl⟩:=G6 H;simp only[a7]at hc;split at hc
  ·rename_i J;obtain rfl:=(yb1 J).1;rcases K with ⟨M,n3,h,rfl⟩|⟨b,h,rfl⟩|⟨s,h,rfl⟩|⟨ag,T,xs,h,_⟩
   ·cases h
   ·cases h
   ·obtain rfl:=(by simpa using h:n=s)
    simp[gJ,PV.str?,KV.down]
   ·cases h
  ·cases hc
 |sl ag T=>
  rcases K with ⟨M,n3,rfl,_⟩|⟨b,rfl,_⟩|⟨s,rfl,_⟩|⟨U,T',xs,rfl,rfl⟩
  ·cases H
  ·cases H
  ·cases H
  ·simp only[jK,yc]at H;obtain rfl:=KO.1 H.1;obtain rfl:=Ty.beq_iff.1 H.2;simp only[a7]at hc;split at hc
   ·rename_i k J;obtain rfl:=(yb1 J).1;cases ag with
    |true=>simp at hc
    |false=>
     cases T with
     |int O=>
      simp only at hc;obtain rfl:=vO.1 hc;exact Mg β k xs
     |_=>simp at hc
   ·rename_i t e J;obtain rfl:=(yb1 J).1;simp only[yc,yw]at hc;obtain rfl:=nb.1 hc.1.1.1.1;rw[show KV.down (.tsl β ag T xs)= .imm β (dS ag T xs)from rfl,cB hc.1.1.1.2];simp[gJ,PV.sl?]
   ·cases hc
 |cons a b=>cases v<;>cases H
theorem gF{a:Ty}(h:a.size=1):c8 a= [a]:=by
 rcases Ak h with ⟨k,rfl⟩|rfl|rfl|⟨ag,T,rfl⟩<;>rfl
theorem qK{β:Bool}{qs:List PV}: ∀{T:Ty} {ls:List LK} {vs:List KV} {c:Nat},a7 P T ls=true->aV (c8 T) vs=true->(∀(j:Nat) (v:KV),vs[j]?=some v->∃q,qs[c+j]?=some q/\lI β v q)->
  iI β qs ls c=some (KV.downs vs)
 | .cons a b,ls,vs,c,hc,H,J=>by
  simp only[a7]at hc;split at hc
  ·rename_i l ls;simp only[yc]at hc;obtain⟨⟨N,U⟩,O⟩:=hc;simp only[c8,gF (nb.1 N),List.singleton_append]at H;cases vs with
   |nil=>cases H
   |cons v vs=>
    simp only[aV,yc]at H;obtain⟨q,K,M⟩:=J 0 v rfl
    have Y:=qK (β:=β) (qs:=qs) (c:=c+1) O H.2 (λj v Z=>by
     obtain⟨q,N,W⟩:=J (j+1) v (by simpa using Z)
     exact⟨q,by rw[show c+1+j=c+(j+1) by omega];exact N,W⟩)
    rw[yw1]at K;simp[iI,K,wG U H.1 M,Y,KV.downs]
  ·cases hc
 | .int k,ls,vs,c,hc,H,J=>rdLeaves_one rfl hc H J
 | .bool,ls,vs,c,hc,H,J=>rdLeaves_one rfl hc H J
 | .str,ls,vs,c,hc,H,J=>rdLeaves_one rfl hc H J
 | .sl ag T,ls,vs,c,hc,H,J=>rdLeaves_one rfl hc H J
 where
 rdLeaves_one {β:Bool} {qs:List PV} {T:Ty} {ls:List LK} {vs:List KV} {c:Nat} (N:T.size=1) (hc:a7 P T ls=true) (H:aV (c8 T) vs=true) (J: ∀(j:Nat) (v:KV),vs[j]?=some v->∃q,qs[c+j]?=some q/\lI β v q):
   iI β qs ls c=some (KV.downs vs):=by
  have V:=eF hc;rw[N]at V;obtain⟨l,rfl⟩:=yu2.1 V;rw[gF N]at H;cases vs with
  |nil=>cases H
  |cons v vs=>
   cases vs with
   |cons v2 vs=>simp[aV]at H
   |nil=>
    simp only[aV,yz3]at H;obtain⟨q,K,M⟩:=J 0 v rfl;rw[yw1]at K;simp[iI,K,wG hc H M,KV.downs]
theorem O0{t:TypeId}{K:TI}(ht:b5 P t K){β:Bool}{T:Ty}{x:den T}{p:PV}{c:Nat}{k:KV->Option R}(Z:p.cells=aQ T x)
  (h:FC K (((cellsOf β T x).drop c).take K.n) k=some r): ∃v,k v=some r/\Pq P β t p c=some v.down:=by
 unfold FC at h;split at h
 ·rename_i T' U;rw[bZ]at h;obtain⟨hl,h⟩:=h;obtain⟨⟨ls,M,hc⟩,hn,hag,_⟩:=ht.ty T' U;have V: ∀(j:Nat) (v:KV),(((cellsOf β T x).drop c).take K.n)[j]?=some v->∃q,p.cells[c+j]?=some q/\lI β v q:=by
   intro j v N;rw[ys1]at N;split at N
   ·rw[ye1]at N;rw[Z];exact(kH (β:=β) (x:=x)).2 _ v N
   ·cases N
  have hr:=qK (P:=P) (c:=c) hc hl V;cases O:K.ag with
  |true=>
   rw[O]at h;simp only[yg]at h;refine⟨_,h,?_⟩;unfold Pq;have J:=ht.ag;rw[O]at J;simp only[J,M,yb,ht.n,eK,eF hc,hn,hr,KV.down];simp
  |false=>
   rw[O]at h;simp only[yh]at h;have J:=ht.ag;rw[O]at J;obtain⟨l,W,rfl⟩:=fL J M;split at h
   ·rename_i v hv;refine⟨v,h,?_⟩;rw[hv]at hr V;obtain⟨q,H,hcp⟩:=V 0 v rfl;rw[yw1]at H;unfold Pq;simp only[J,W,yb,H];simp only[iI,H,yb,KV.downs]at hr;rw[FJ]at hr;obtain⟨a,Y,hr⟩:=hr;rw[Y];exact congrArg some (yb1 (ya hr)).1
   ·cases h
 ·cases h
theorem Hn{w7:Nat}{k:KV->Option R}: ∀{cs:List KV} {j:Nat},Sb (aS R) w7 cs j k=some r->∃v,j≤w7/\cs[w7-j]?=some v/\k v=some r
 | [],j,h=>by cases h
 |v::cs,j,h=>by
  simp only[Sb,real_ite]at h;cases H:Nat.beq w7 j with
  |true=>
   rw[H]at h;simp only[yg]at h;obtain rfl:=nb.1 H;exact⟨v,ya1 _,by simp,h⟩
  |false=>
   rw[H]at h;simp only[yh]at h;obtain⟨w,hj,J,K⟩:=Hn h;exact⟨w,by omega,by rw[show w7-j=(w7-(j+1))+1 by omega];simpa using J,K⟩
theorem Dw{w7:Nat}{v:KV}{H:List KV}{k:List KV->Option R}: ∀{cs:List KV} {j:Nat},FL (aS R) w7 v H cs j k=some r->j≤w7/\w7<j+cs.length/\k (H.set w7 v)=some r
 | [],j,h=>by cases h
 |_::cs,j,h=>by
  simp only[FL,real_ite]at h;cases J:Nat.beq w7 j with
  |true=>
   rw[J]at h;simp only[yg]at h;obtain rfl:=nb.1 J;rw[d8]at h;exact⟨ya1 _,by simp,h⟩
  |false=>
   rw[J]at h;simp only[yh]at h;obtain⟨h1,h2,K⟩:=Dw h;exact⟨by omega,by simp only[yz];omega,K⟩
theorem nT{cs:List KV}{i:Nat}{v:KV}(h:cs[i]?=some v):(KV.downs cs)[i]?=some v.down:=by rw[cQ,yg1,h];rfl
theorem Qy{t:TypeId}{m:aK}{b g i:Nat}{J:bK}{H:IntKind}{xs:List Int}{x:Int}(M:box? m b g=some J)(hr:J.row= .ints H xs)(N:isAgg? P t=some false)(K:xs[i]?=some x):
  jY P t m (.ptr b g i 0)=some {v:= .lit (.int H x),rd:= [b]}:=by
 simp[jY,M,hr,N,K,guardB]
theorem Ip(ht:bT P tab){t:TypeId}{a:KV}{k:bC->Option R}(h:OT (aS R) tab t mem a k=some r): ∃out,k out=some r/\jY P t (aB mem) a.down=some out.down/\out.wr= []/\out.push= []:=by
 unfold OT at h;split at h
 ·rename_i ti hti;have H:=b5.of (ht _ _ hti);split at h
  ·rename_i β ag T x c;obtain⟨v,V,hr⟩:=O0 H (cG (ag:=ag) (T:=T) (x:=x)) h;exact⟨_,V,by simp only[KV.down,jY,hr,yl];rfl,rfl,rfl⟩
  ·rename_i b g i c;obtain⟨O,K,h⟩:=cE h;split at h
   ·rename_i e cs J;have U:O.down.row= .cells e (KV.downs cs):=by rw[show O.down.row=O.row.down from rfl,J];rfl
    cases W:ti.ag with
    |true=>
     rw[W]at h;simp only[yg]at h;rw[bZ]at h;refine⟨_,h.2,?_,rfl,rfl⟩;have M:=H.ag;rw[W]at M;simp only[KV.down,jY,K,yb,U,M,yg,H.n,eK,aJ,h.1,true_and];simp[bC.down,KV.down,cQ,yl3,yh4,aB]
    |false=>
     rw[W]at h;simp only[yh]at h;obtain⟨v,_,Y,V⟩:=Hn h;refine⟨_,V,?_,rfl,rfl⟩;have M:=H.ag;rw[W]at M;rw[Nat.sub_zero]at Y;simp only[KV.down,jY,K,yb,U,M,yh,nT Y,yl];rfl
   ·rename_i β ag T xs J;cases N:ti.ag&&a6 ag T with
    |true=>rw[N]at h;cases h
    |false=>
     rw[N]at h;simp only[yh,real_getN]at h;rw[FJ]at h;obtain⟨x,hx,h⟩:=h;obtain⟨v,V,hr⟩:=O0 H (cG (ag:=ag) (T:=T) (x:=x)) h;refine⟨_,V,?_,rfl,rfl⟩;have U:O.down.row=(KRow.ts β ag T xs).down:=by rw[show O.down.row=O.row.down from rfl,J]
     cases Z:a6 ag T with
     |false=>
      rw[KRow.down_sl Z]at U;simp only[KV.down,jY,K,yb,U,yg1,hx,yl,hr];rfl
     |true=>
      obtain⟨rfl,kk,rfl⟩:=aO.1 Z;rw[Z,yz3]at N;have M:=H.ag;rw[N]at M;have hc:c=0/\v.down= .lit (.int kk x):=by
       unfold Pq at hr;simp only[M]at hr;rw[FJ]at hr;obtain⟨l,hl,hr⟩:=hr;rw[FJ]at hr;obtain⟨q,hq,hr⟩:=hr;rw[cG]at hq;cases c with
       |succ c=>cases hq
       |zero=>
        obtain rfl:=ya hq;refine⟨rfl,?_⟩;cases l<;>simp only[gJ,PV.int?,PV.bool?,PV.str?,PV.ints?,PV.sl?,Option.bind_none]at hr<;>first|cases hr|skip
        rw[FJ]at hr;obtain⟨y,hy,hr⟩:=hr;rw[bZ]at hy;obtain rfl:=vO.1 hy.1;obtain rfl:=ya hy.2;exact(ya hr).symm
      obtain⟨rfl,Y⟩:=hc;have:=Qy (g:=g) K (show O.down.row= .ints kk xs from U) M (show(xs:List Int)[i]?=some x from hx);rw[show KV.down (.ptr b g i 0)= .ptr b g i 0 from rfl,this];simp[bC.down,Y,aB]
   ·cases h
  ·cases h
 ·cases h
end
end Go.Ab
