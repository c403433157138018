import Derived.Test.YtjjjbgicidhpfaaDoorLib13
set_option linter.unusedVariables false
set_option linter.unusedSectionVars false
set_option linter.unusedSimpArgs false
namespace Go.Ab
variable [cF]
section
variable {P:Program} {R:Type} {r:R} {mem:aF} {tab:TypeId->Option TI}
theorem Hd{t:TypeId}{H:TI}{T:Ty}{v:KV}{K:den T->Bool->List Nat->Option R}(ht:b5 P t H)(hT:H.ty=some T)(h:Pm (aS R) mem H.ag T v K=some r):
  ∃x β l,K x β l=some r/\vL P (aB mem) t v.down=some (β,cR H.ag T x,l):=by
 unfold Pm at h;rw[bZ]at h;obtain⟨⟨ls,M,hc⟩,hn,J,O⟩:=ht.ty T hT;obtain⟨x,β,l,hK,N⟩:=nU hc O h.2;refine⟨x,β,l,hK,?_⟩;unfold vL;rw[M,yb,eS];rw[N];simp only[yb,rB ht.ag J,yl]
theorem Ez{t:TypeId}{H:TI}{T:Ty}(ht:b5 P t H)(hT:H.ty=some T): ∀{vs:List KV} {K:List (den T)->Bool->List Nat->Option R},JU (aS R) mem H.ag T vs K=some r->
  ∃xs β l,K xs β l=some r/\gO (vL P (aB mem) t) (KV.downs vs)=some (β,xs.map (cR H.ag T),l)
 | [],K,h=>⟨[],false,[],h,rfl⟩
 |v::vs,K,h=>by
  simp only[JU]at h;obtain⟨x,β1,N,h,O⟩:=Hd ht hT h;obtain⟨xs,β2,M,h,J⟩:=Ez ht hT h;exact⟨x::xs,β1||β2,N++M,h,by simp[KV.downs,gO,O,J]⟩
theorem Bv{k:IntKind}: ∀{vs:List KV} {xs:List Int},BX k vs=some xs->fM k (KV.downs vs)=some xs
 | [],xs,h=>by simp only[BX,Option.some.injEq]at h;subst h;rfl
 |v::vs,xs,h=>by
  unfold BX at h;split at h
  ·rename_i H;cases H
  ·rename_i k' x r' H;obtain⟨rfl,rfl⟩:=yb1 H;rw[bZ]at h;obtain⟨K,h⟩:=h;split at h
   ·rename_i ys J;obtain rfl:=ya h;simp[KV.downs,KV.down,fM,K,Bv J]
   ·cases h
  ·cases h
theorem LQ{op:BinOp}{H J:IntKind}{a b:Int}{k:Value->Option R}(h:Ni (aS R) op H a J b k=some r): ∃v,sD op (.int H a) (.int J b)=some v/\k v=some r:=by
 cases op<;>simp only[Ni,real_guard,bZ]at h<;>simp only[sD,eK]
 all_goals first
  |exact⟨_,⟨h.1,h.2.1,rfl⟩,h.2.2⟩
  |exact⟨_,⟨h.1,rfl⟩,h.2⟩
  |exact⟨_,⟨h.1.1,h.1.2,rfl⟩,h.2⟩
theorem Mr{H:Bool}{op:BinOp}{x y:Value}{k:Value->Option R}(h:Ob (aS R) H op x y k=some r): ∃v,sD op x y=some v/\k v=some r/\(∀a b,x= .bool a->y= .bool b->H=true):=by
 unfold Ob at h;split at h
 ·obtain⟨v,J,M⟩:=LQ h;exact⟨v,J,M,λ_ _ h=>by cases h⟩
 ·rename_i a b;rw[bZ]at h;obtain⟨K,h⟩:=h;split at h<;>first|cases h|exact⟨_,rfl,h,λ_ _ _ _=>K⟩
 ·rename_i a b;split at h<;>first|cases h|exact⟨_,rfl,h,λ_ _ h=>by cases h⟩
 ·cases h
theorem HH{k:IntKind}{a:KV}(h:jK (.int k) a=true): ∃H x,a= .lit (.int H x):=by
 cases a with
 |lit v=>cases v<;>first|exact⟨_,_,rfl⟩|cases h
 |_=>cases h
theorem Cv{a:KV}(h:jK .bool a=true): ∃x,a= .lit (.bool x):=by
 cases a with
 |lit v=>cases v<;>first|exact⟨_,rfl⟩|cases h
 |_=>cases h
theorem G6{a:KV}(h:jK .str a=true): ∃x,a= .lit (.string x):=by
 cases a with
 |lit v=>cases v<;>first|exact⟨_,rfl⟩|cases h
 |_=>cases h
theorem Em{T:Ty}{t:TypeId}{a b:KV}{k:Bool->Option R}(N:jK T a=true)(M:jK T b=true)
  (ht:HP P t T=true) (h:FN a b k=some r): ∃q,De P t a.down b.down=some q/\k q=some r:=by
 have H:(∃J,T= .int J/\P.underlying t=some (.int J))\/(T= .bool/\P.underlying t=some .bool)\/(T= .str/\P.underlying t=some .string):=by
  unfold HP at ht;split at ht
  ·rename_i J H;split at ht
   ·exact .inl ⟨J,by rw[vO.1 ht],H⟩
   ·cases ht
  ·rename_i H;split at ht
   ·exact .inr (.inl ⟨rfl,H⟩)
   ·cases ht
  ·rename_i H;split at ht
   ·exact .inr (.inr ⟨rfl,H⟩)
   ·cases ht
  ·cases ht
 rcases H with ⟨J,rfl,H⟩|⟨rfl,H⟩|⟨rfl,H⟩
 ·obtain⟨K,x,rfl⟩: ∃K x,a= .lit (.int K x):=HH N;obtain⟨kb,y,rfl⟩: ∃K x,b= .lit (.int K x):=HH M;simp only[FN]at h;rw[bZ]at h;exact⟨x==y,by simp[De,KV.down,H,guardB,h.1],h.2⟩
 ·obtain⟨x,rfl⟩: ∃x,a= .lit (.bool x):=Cv N;obtain⟨y,rfl⟩: ∃x,b= .lit (.bool x):=Cv M;exact⟨x==y,by simp only[De,KV.down,H],h⟩
 ·obtain⟨x,rfl⟩: ∃x,a= .lit (.string x):=G6 N;obtain⟨y,rfl⟩: ∃x,b= .lit (.string x):=G6 M;exact⟨_,by simp only[De,KV.down,H];rfl,h⟩
theorem Bk: ∀{fs:List Field} {n:Nat} {K:List Ty} {as bs:List KV} {k:Bool->Option R},En P fs n K=true->aV K as=true->aV K bs=true->oO as bs k=some r->
  ∃q,lY P fs n (KV.downs as) (KV.downs bs)=some q/\k q=some r
 | [],n,[],as,bs,k,hc,H,J,h=>by
  cases as with
  |cons=>simp[aV]at H
  |nil=>
   cases bs with
   |cons=>simp[aV]at J
   |nil=>exact⟨true,rfl,h⟩
 |f::fs,n,T::K,as,bs,k,hc,H,J,h=>by
  cases as with
  |nil=>simp[aV]at H
  |cons a as=>
   cases bs with
   |nil=>simp[aV]at J
   |cons b bs=>
    simp only[aV,yc]at H J;simp only[En,yc]at hc;obtain⟨⟨⟨O,U⟩,W⟩,V⟩:=hc;cases as with
    |nil=>
     cases bs with
     |nil=>
      simp only[oO]at h;obtain⟨q,N,Z⟩:=Em H.1 J.1 W h;cases K with
      |cons=>simp[aV]at H
      |nil=>
       cases fs with
       |cons=>simp[En]at V
       |nil=>exact⟨q,by simp[KV.downs,lY,guardB,O,U,N],Z⟩
     |cons b' bs=>cases K<;>simp[aV]at H J
    |cons a' as=>
     cases bs with
     |nil=>cases K<;>simp[aV]at H J
     |cons b' bs=>
      simp only[oO]at h;obtain⟨q,N,h⟩:=Em H.1 J.1 W h;obtain⟨Y,M,h⟩:=Bk V H.2 J.2 h;refine⟨q&&Y,?_,h⟩;simp only[KV.downs]at M⊢
      simp[lY,guardB,O,U,N,M]
 | [],n,T::K,as,bs,k,hc,H,J,h=>by simp[En]at hc
 |f::fs,n,[],as,bs,k,hc,H,J,h=>by simp[En]at hc
theorem Gk{t:TypeId}(ht:bT P tab)(h:Py tab t=true):Be P t=true:=by
 unfold Py at h;split at h
 ·rename_i ti K;have H:=(b5.of (ht _ _ K)).tk;unfold pL at H;unfold Be;split at h
  ·rename_i J;rw[J]at H;cases M:P.underlying t with
   |none=>rw[M]at H;simp at H
   |some d=>rw[M]at H;cases d<;>simp_all
  ·cases h
 ·cases h
theorem RR{op:BinOp}{t:TypeId}{a b:Value}(h:a= .slice none 0 0->b= .slice none 0 0->False):vN P op t (.lit a) (.lit b)=guardB (FX P t a b) ((sD op a b).map .lit):=by
 unfold vN;split<;>first|(rename_i J H;cases J;cases H;exact absurd rfl (λ_=>h rfl rfl))|(simp_all;done)
theorem kM(ag:Bool)(T:Ty)(xs:List (den T)):lE (dS ag T xs)=some xs.isEmpty:=by
 cases h:iQ ag T with
 |true=>
  obtain⟨rfl,k,rfl⟩:=aO.1 h;rfl
 |false=>rw[cB h];simp[lE]
theorem QF(ht:bT P tab){op:BinOp}{t:TypeId}{x y:KV}{k:KV->Option R}(h:Uw (aS R) tab op t x y k=some r): ∃v,vN P op t x.down y.down=some v.down/\k v=some r:=by
 unfold Uw at h;split at h
 ·rename_i β ag T xs;rw[bZ]at h;obtain⟨hs,h⟩:=h;have hs:=Gk ht hs;split at h
  ·simp only[real_ite]at h;cases M:xs.isEmpty with
   |true=>rw[M]at h;exact⟨.unkB,by simp[vN,KV.down,guardB,hs,kM,M],h⟩
   |false=>rw[M]at h;exact⟨.lit (.bool false),by simp[vN,KV.down,guardB,hs,kM,M],h⟩
  ·simp only[real_ite]at h;cases M:xs.isEmpty with
   |true=>rw[M]at h;exact⟨.unkB,by simp[vN,KV.down,guardB,hs,kM,M],h⟩
   |false=>rw[M]at h;exact⟨.lit (.bool true),by simp[vN,KV.down,guardB,hs,kM,M],h⟩
  ·cases h
 ·rw[bZ]at h;obtain⟨hs,h⟩:=h;have hs:=Gk ht hs;split at h
  ·exact⟨.lit (.bool true),by simp[vN,KV.down,guardB,hs],h⟩
  ·exact⟨.lit (.bool false),by simp[vN,KV.down,guardB,hs],h⟩
  ·cases h
 ·rename_i a b hne;obtain⟨v,hv,N,hb⟩:=Mr h;refine⟨.lit v,?_,N⟩;rw[show KV.down (.lit a)= .lit a from rfl,show KV.down (.lit b)= .lit b from rfl,RR hne];simp only[KV.down,eK,hv,yl];refine⟨?_,trivial⟩;unfold FX;split
  ·rename_i a b;have:=hb _ _ rfl rfl;unfold OJ at this;split at this
   ·rename_i ti K;have H:=(b5.of (ht _ _ K)).tk;unfold pL at H;unfold Kl;split at this
    ·rename_i U;rw[U]at H;cases O:P.underlying t with
     |none=>rw[O]at H;simp at H
     |some d=>rw[O]at H;cases d<;>simp_all
    ·cases this
   ·cases this
  ·rfl
 ·rename_i a b;split at h
  ·rename_i T hT;rw[bZ]at h;obtain⟨hg,h⟩:=h;simp only[yc]at hg;unfold eqTy? at hT;split at hT
   ·rename_i ti K;rw[bZ]at hT;obtain⟨fs,T',O,V,Z,hs2,hc⟩:=(b5.of (ht _ _ K)).eq hT.1;rw[hT.2]at V;obtain rfl:=ya V;have Y: ∀{k:Bool->Option R},oO a b k=some r->∃q,nY P t (KV.downs a) (KV.downs b)=some q/\k q=some r:=by
     intro k N;obtain⟨q,W,N⟩:=Bk hc hg.1.2 hg.2 N;refine⟨q,?_,N⟩;unfold nY;simp only[O,eK,yc];exact⟨⟨Z,hs2⟩,W⟩
    split at h
    ·obtain⟨q,W,N⟩:=Y h;exact⟨.lit (.bool q),by simp[vN,KV.down,W],N⟩
    ·obtain⟨q,W,N⟩:=Y h;exact⟨.lit (.bool (!q)),by simp[vN,KV.down,W],N⟩
    ·cases h
   ·cases hT
  ·cases h
 ·rw[bZ]at h;obtain⟨hp,h⟩:=h;have J:=isPtrK_some ht hp;split at h
  ·exact⟨.lit (.bool false),by simp[vN,KV.down,guardB,J],h⟩
  ·exact⟨.lit (.bool true),by simp[vN,KV.down,guardB,J],h⟩
  ·cases h
 ·rw[bZ]at h;obtain⟨hp,h⟩:=h;have J:=isPtrK_some ht hp;split at h
  ·exact⟨.lit (.bool false),by simp[vN,KV.down,guardB,J],h⟩
  ·exact⟨.lit (.bool true),by simp[vN,KV.down,guardB,J],h⟩
  ·cases h
 ·cases h
 where
 isPtrK_some {t:TypeId} (ht:bT P tab) (h:Oc tab t=true):IF P t=true:=by
  unfold Oc at h;split at h
  ·rename_i ti K;have H:=(b5.of (ht _ _ K)).tk;unfold pL at H;unfold IF;split at h
   ·rename_i U;rw[U]at H;cases O:P.underlying t with
    |none=>rw[O]at H;simp at H
    |some d=>rw[O]at H;cases d<;>simp_all
   ·cases h
  ·cases h
theorem RH{op:UnOp}{x:KV}{k:KV->Option R}(h:Vh op x k=some r): ∃a v,x= .lit a/\IC op a=some v/\k (.lit v)=some r:=by
 unfold Vh at h;split at h
 ·rename_i a;split at h<;>first|cases h|exact⟨_,_,rfl,rfl,h⟩
 ·cases h
theorem fV{len:Nat}{M J K:Option Int}{k:Nat->Nat->Option R}(h:mA (aS R) len M J K k=some r): ∃b,iA len M J K=some b/\k b.1 b.2=some r:=by
 have H: ∀{y d:Nat} {x:Option Int} {k:Nat->Option R},Bf (aS R) y x d k=some r->∃b,AT y x d=some b/\k b=some r:=by
  intro y d x k h;cases x with
  |none=>exact⟨d,rfl,h⟩
  |some i=>
   simp only[Bf,real_guard,bZ]at h;exact⟨i.toNat,by simp only[AT,eK];exact⟨h.1,trivial⟩,h.2⟩
 unfold mA at h;rw[bZ]at h;obtain⟨O,h⟩:=h;obtain⟨m,hm,h⟩:=H h;obtain⟨q,N,h⟩:=H h;obtain⟨l,U,h⟩:=H h;exact⟨(l,q),by simp[iA,guardB,O,hm,N,U],h⟩
end
end Go.Ab
