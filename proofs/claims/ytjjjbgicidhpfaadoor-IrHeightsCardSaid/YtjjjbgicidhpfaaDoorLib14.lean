import Derived.Test.YtjjjbgicidhpfaaDoorLib13
set_option linter.unusedVariables false
set_option linter.unusedSectionVars false
set_option linter.unusedSimpArgs false
namespace Go.Ab
variable [cS]
section
variable {P:Program} {R:Type} {r:R} {mem:aH} {tab:TypeId->Option TI}
theorem JL{t:TypeId}{H:TI}{T:Ty}{v:KV}{K:den T->Bool->List Nat->Option R}(ht:cH P t H)(hT:H.ty=some T)(h:Rn (aZ R) mem H.ag T v K=some r):
  ∃x β l,K x β l=some r/\yQ P (aD mem) t v.down=some (β,c9 H.ag T x,l):=by
 unfold Rn at h;rw[cJ]at h;obtain⟨⟨ls,M,hc⟩,hn,J,N⟩:=ht.ty T hT;obtain⟨x,β,l,hK,O⟩:=pS hc N h.2;refine⟨x,β,l,hK,?_⟩;unfold yQ;rw[M,ya,fE];rw[O];simp only[ya,sW ht.ag J,yl]
theorem Gz{t:TypeId}{H:TI}{T:Ty}(ht:cH P t H)(hT:H.ty=some T): ∀{vs:List KV} {K:List (den T)->Bool->List Nat->Option R},Lp (aZ R) mem H.ag T vs K=some r->
  ∃xs β l,K xs β l=some r/\i7 (yQ P (aD mem) t) (KV.downs vs)=some (β,xs.map (c9 H.ag T),l)
 | [],K,h=>⟨[],false,[],h,rfl⟩
 |v::vs,K,h=>by
  simp only[Lp]at h;obtain⟨x,β1,M,h,O⟩:=JL ht hT h;obtain⟨xs,β2,N,h,J⟩:=Gz ht hT h;exact⟨x::xs,β1||β2,M++N,h,by simp[KV.downs,i7,O,J]⟩
theorem D7{k:IntKind}: ∀{vs:List KV} {xs:List Int},D3 k vs=some xs->gP k (KV.downs vs)=some xs
 | [],xs,h=>by simp only[D3,Option.some.injEq]at h;subst h;rfl
 |v::vs,xs,h=>by
  unfold D3 at h;split at h
  ·rename_i H;cases H
  ·rename_i k' x r' H;obtain⟨rfl,rfl⟩:=yd1 H;rw[cJ]at h;obtain⟨K,h⟩:=h;split at h
   ·rename_i ys J;obtain rfl:=yb h;simp[KV.downs,KV.down,gP,K,D7 J]
   ·cases h
  ·cases h
theorem Nb{op:BinOp}{J H:IntKind}{a b:Int}{k:Value->Option R}(h:P1 (aZ R) op J a H b k=some r): ∃v,wN op (.int J a) (.int H b)=some v/\k v=some r:=by
 cases op<;>simp only[P1,real_guard,cJ]at h<;>simp only[wN,e9]
 all_goals first
  |exact⟨_,⟨h.1,h.2.1,rfl⟩,h.2.2⟩
  |exact⟨_,⟨h.1,rfl⟩,h.2⟩
  |exact⟨_,⟨h.1.1,h.1.2,rfl⟩,h.2⟩
theorem On{H:Bool}{op:BinOp}{x y:Value}{k:Value->Option R}(h:Pn (aZ R) H op x y k=some r): ∃v,wN op x y=some v/\k v=some r/\(∀a b,x= .bool a->y= .bool b->H=true):=by
 unfold Pn at h;split at h
 ·obtain⟨v,M,K⟩:=Nb h;exact⟨v,M,K,λ_ _ h=>by cases h⟩
 ·rename_i a b;rw[cJ]at h;obtain⟨J,h⟩:=h;split at h<;>first|cases h|exact⟨_,rfl,h,λ_ _ _ _=>J⟩
 ·rename_i a b;split at h<;>first|cases h|exact⟨_,rfl,h,λ_ _ h=>by cases h⟩
 ·cases h
theorem Ia{k:IntKind}{a:KV}(h:kX (.int k) a=true): ∃H x,a= .lit (.int H x):=by
 cases a with
 |lit v=>cases v<;>first|exact⟨_,_,rfl⟩|cases h
 |_=>cases h
theorem FP{a:KV}(h:kX .bool a=true): ∃x,a= .lit (.bool x):=by
 cases a with
 |lit v=>cases v<;>first|exact⟨_,rfl⟩|cases h
 |_=>cases h
theorem H0{a:KV}(h:kX .str a=true): ∃x,a= .lit (.string x):=by
 cases a with
 |lit v=>cases v<;>first|exact⟨_,rfl⟩|cases h
 |_=>cases h
theorem Gj{T:Ty}{t:TypeId}{a b:KV}{k:Bool->Option R}(N:kX T a=true)(M:kX T b=true)
  (ht:Jf P t T=true) (h:Hy a b k=some r): ∃q,Ek P t a.down b.down=some q/\k q=some r:=by
 have H:(∃J,T= .int J/\P.underlying t=some (.int J))\/(T= .bool/\P.underlying t=some .bool)\/(T= .str/\P.underlying t=some .string):=by
  unfold Jf at ht;split at ht
  ·rename_i J H;split at ht
   ·exact .inl ⟨J,by rw[yR.1 ht],H⟩
   ·cases ht
  ·rename_i H;split at ht
   ·exact .inr (.inl ⟨rfl,H⟩)
   ·cases ht
  ·rename_i H;split at ht
   ·exact .inr (.inr ⟨rfl,H⟩)
   ·cases ht
  ·cases ht
 rcases H with ⟨J,rfl,H⟩|⟨rfl,H⟩|⟨rfl,H⟩
 ·obtain⟨K,x,rfl⟩: ∃K x,a= .lit (.int K x):=Ia N;obtain⟨kb,y,rfl⟩: ∃K x,b= .lit (.int K x):=Ia M;simp only[Hy]at h;rw[cJ]at h;exact⟨x==y,by simp[Ek,KV.down,H,guardB,h.1],h.2⟩
 ·obtain⟨x,rfl⟩: ∃x,a= .lit (.bool x):=FP N;obtain⟨y,rfl⟩: ∃x,b= .lit (.bool x):=FP M;exact⟨x==y,by simp only[Ek,KV.down,H],h⟩
 ·obtain⟨x,rfl⟩: ∃x,a= .lit (.string x):=H0 N;obtain⟨y,rfl⟩: ∃x,b= .lit (.string x):=H0 M;exact⟨_,by simp only[Ek,KV.down,H];rfl,h⟩
theorem Eg: ∀{fs:List Field} {n:Nat} {K:List Ty} {as bs:List KV} {k:Bool->Option R},Gv P fs n K=true->a9 K as=true->a9 K bs=true->qH as bs k=some r->
  ∃q,nU P fs n (KV.downs as) (KV.downs bs)=some q/\k q=some r
 | [],n,[],as,bs,k,hc,H,J,h=>by
  cases as with
  |cons=>simp[a9]at H
  |nil=>
   cases bs with
   |cons=>simp[a9]at J
   |nil=>exact⟨true,rfl,h⟩
 |f::fs,n,T::K,as,bs,k,hc,H,J,h=>by
  cases as with
  |nil=>simp[a9]at H
  |cons a as=>
   cases bs with
   |nil=>simp[a9]at J
   |cons b bs=>
    simp only[a9,yc]at H J;simp only[Gv,yc]at hc;obtain⟨⟨⟨W,U⟩,O⟩,V⟩:=hc;cases as with
    |nil=>
     cases bs with
     |nil=>
      simp only[qH]at h;obtain⟨q,N,Z⟩:=Gj H.1 J.1 O h;cases K with
      |cons=>simp[a9]at H
      |nil=>
       cases fs with
       |cons=>simp[Gv]at V
       |nil=>exact⟨q,by simp[KV.downs,nU,guardB,W,U,N],Z⟩
     |cons Y bs=>cases K<;>simp[a9]at H J
    |cons a' as=>
     cases bs with
     |nil=>cases K<;>simp[a9]at H J
     |cons Y bs=>
      simp only[qH]at h;obtain⟨q,N,h⟩:=Gj H.1 J.1 O h;obtain⟨q',M,h⟩:=Eg V H.2 J.2 h;refine⟨q&&q',?_,h⟩;simp only[KV.downs]at M⊢
      simp[nU,guardB,W,U,N,M]
 | [],n,T::K,as,bs,k,hc,H,J,h=>by simp[Gv]at hc
 |f::fs,n,[],as,bs,k,hc,H,J,h=>by simp[Gv]at hc
theorem IZ{t:TypeId}(ht:b9 P tab)(h:Q3 tab t=true):Dp P t=true:=by
 unfold Q3 at h;split at h
 ·rename_i ti J;have H:=(cH.of (ht _ _ J)).tk;unfold qU at H;unfold Dp;split at h
  ·rename_i K;rw[K]at H;cases M:P.underlying t with
   |none=>rw[M]at H;simp at H
   |some d=>rw[M]at H;cases d<;>simp_all
  ·cases h
 ·cases h
theorem S7{op:BinOp}{t:TypeId}{a b:Value}(h:a= .slice none 0 0->b= .slice none 0 0->False):yN P op t (.lit a) (.lit b)=guardB (Io P t a b) ((wN op a b).map .lit):=by
 unfold yN;split<;>first|(rename_i J H;cases J;cases H;exact absurd rfl (λ_=>h rfl rfl))|(simp_all;done)
theorem mQ(ag:Bool)(T:Ty)(xs:List (den T)):nM (eJ ag T xs)=some xs.isEmpty:=by
 cases h:jW ag T with
 |true=>
  obtain⟨rfl,k,rfl⟩:=aS.1 h;rfl
 |false=>rw[cO h];simp[nM]
theorem RR(ht:b9 P tab){op:BinOp}{t:TypeId}{x y:KV}{k:KV->Option R}(h:Wk (aZ R) tab op t x y k=some r): ∃v,yN P op t x.down y.down=some v.down/\k v=some r:=by
 unfold Wk at h;split at h
 ·rename_i β ag T xs;rw[cJ]at h;obtain⟨hs,h⟩:=h;have hs:=IZ ht hs;split at h
  ·simp only[real_ite]at h;cases M:xs.isEmpty with
   |true=>rw[M]at h;exact⟨.unkB,by simp[yN,KV.down,guardB,hs,mQ,M],h⟩
   |false=>rw[M]at h;exact⟨.lit (.bool false),by simp[yN,KV.down,guardB,hs,mQ,M],h⟩
  ·simp only[real_ite]at h;cases M:xs.isEmpty with
   |true=>rw[M]at h;exact⟨.unkB,by simp[yN,KV.down,guardB,hs,mQ,M],h⟩
   |false=>rw[M]at h;exact⟨.lit (.bool true),by simp[yN,KV.down,guardB,hs,mQ,M],h⟩
  ·cases h
 ·rw[cJ]at h;obtain⟨hs,h⟩:=h;have hs:=IZ ht hs;split at h
  ·exact⟨.lit (.bool true),by simp[yN,KV.down,guardB,hs],h⟩
  ·exact⟨.lit (.bool false),by simp[yN,KV.down,guardB,hs],h⟩
  ·cases h
 ·rename_i a b Z;obtain⟨v,hv,N,hb⟩:=On h;refine⟨.lit v,?_,N⟩;rw[show KV.down (.lit a)= .lit a from rfl,show KV.down (.lit b)= .lit b from rfl,S7 Z];simp only[KV.down,e9,hv,yl];refine⟨?_,trivial⟩;unfold Io;split
  ·rename_i a b;have:=hb _ _ rfl rfl;unfold Rh at this;split at this
   ·rename_i ti J;have H:=(cH.of (ht _ _ J)).tk;unfold qU at H;unfold My;split at this
    ·rename_i O;rw[O]at H;cases U:P.underlying t with
     |none=>rw[U]at H;simp at H
     |some d=>rw[U]at H;cases d<;>simp_all
    ·cases this
   ·cases this
  ·rfl
 ·rename_i a b;split at h
  ·rename_i T hT;rw[cJ]at h;obtain⟨hg,h⟩:=h;simp only[yc]at hg;unfold eqTy? at hT;split at hT
   ·rename_i ti J;rw[cJ]at hT;obtain⟨fs,T',U,W,hs1,hs2,hc⟩:=(cH.of (ht _ _ J)).eq hT.1;rw[hT.2]at W;obtain rfl:=yb W;have V: ∀{k:Bool->Option R},qH a b k=some r->∃q,pT P t (KV.downs a) (KV.downs b)=some q/\k q=some r:=by
     intro k N;obtain⟨q,Y,N⟩:=Eg hc hg.1.2 hg.2 N;refine⟨q,?_,N⟩;unfold pT;simp only[U,e9,yc];exact⟨⟨hs1,hs2⟩,Y⟩
    split at h
    ·obtain⟨q,Y,N⟩:=V h;exact⟨.lit (.bool q),by simp[yN,KV.down,Y],N⟩
    ·obtain⟨q,Y,N⟩:=V h;exact⟨.lit (.bool (!q)),by simp[yN,KV.down,Y],N⟩
    ·cases h
   ·cases hT
  ·cases h
 ·rw[cJ]at h;obtain⟨hp,h⟩:=h;have K:=isPtrK_some ht hp;split at h
  ·exact⟨.lit (.bool false),by simp[yN,KV.down,guardB,K],h⟩
  ·exact⟨.lit (.bool true),by simp[yN,KV.down,guardB,K],h⟩
  ·cases h
 ·rw[cJ]at h;obtain⟨hp,h⟩:=h;have K:=isPtrK_some ht hp;split at h
  ·exact⟨.lit (.bool false),by simp[yN,KV.down,guardB,K],h⟩
  ·exact⟨.lit (.bool true),by simp[yN,KV.down,guardB,K],h⟩
  ·cases h
 ·cases h
 where
 isPtrK_some {t:TypeId} (ht:b9 P tab) (h:Qv tab t=true):K7 P t=true:=by
  unfold Qv at h;split at h
  ·rename_i ti J;have H:=(cH.of (ht _ _ J)).tk;unfold qU at H;unfold K7;split at h
   ·rename_i O;rw[O]at H;cases U:P.underlying t with
    |none=>rw[U]at H;simp at H
    |some d=>rw[U]at H;cases d<;>simp_all
   ·cases h
  ·cases h
theorem Uo{op:UnOp}{x:KV}{k:KV->Option R}(h:W4 op x k=some r): ∃a v,x= .lit a/\KJ op a=some v/\k (.lit v)=some r:=by
 unfold W4 at h;split at h
 ·rename_i a;split at h<;>first|cases h|exact⟨_,_,rfl,rfl,h⟩
 ·cases h
theorem gQ{len:Nat}{J K M:Option Int}{k:Nat->Nat->Option R}(h:n7 (aZ R) len J K M k=some r): ∃b,jJ len J K M=some b/\k b.1 b.2=some r:=by
 have H: ∀{y d:Nat} {x:Option Int} {k:Nat->Option R},CR (aZ R) y x d k=some r->∃b,Cg y x d=some b/\k b=some r:=by
  intro y d x k h;cases x with
  |none=>exact⟨d,rfl,h⟩
  |some i=>
   simp only[CR,real_guard,cJ]at h;exact⟨i.toNat,by simp only[Cg,e9];exact⟨h.1,trivial⟩,h.2⟩
 unfold n7 at h;rw[cJ]at h;obtain⟨N,h⟩:=h;obtain⟨m,hm,h⟩:=H h;obtain⟨q,O,h⟩:=H h;obtain⟨l,U,h⟩:=H h;exact⟨(l,q),by simp[jJ,guardB,N,hm,O,U],h⟩
end
end Go.Ab
