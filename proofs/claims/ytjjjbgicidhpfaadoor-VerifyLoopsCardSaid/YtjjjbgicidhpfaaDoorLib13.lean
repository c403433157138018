import Derived.Test.YtjjjbgicidhpfaaDoorLib12
set_option linter.unusedVariables false
set_option linter.unusedSectionVars false
set_option linter.unusedSimpArgs false
namespace Go.Ab
variable [b3]
section
variable {P:Program} {R:Type} {r:R} {mem:aE} {tab:TypeId->Option TI}
theorem E3{t:TypeId}{H:TI}{T:Ty}{v:KV}{K:den T->Bool->List Nat->Option R}(ht:bT P t H)(hT:H.ty=some T)(h:Li (aQ R) mem H.ag T v K=some r):
  ∃x β l,K x β l=some r/\qH P (aB mem) t v.down=some (β,cF H.ag T x,l):=by
 unfold Li at h;rw[bP]at h;obtain⟨⟨ls,J,N⟩,hn,I,O⟩:=ht.ty T hT;obtain⟨x,β,l,hK,M⟩:=lH N O h.2;refine⟨x,β,l,hK,?_⟩;unfold qH;rw[J,ye,dU];rw[M];simp only[ye,oE ht.ag I,yh]
theorem Ca{t:TypeId}{H:TI}{T:Ty}(ht:bT P t H)(hT:H.ty=some T): ∀{vs:List KV} {K:List (den T)->Bool->List Nat->Option R},Hk (aQ R) mem H.ag T vs K=some r->
  ∃xs β l,K xs β l=some r/\fG (qH P (aB mem) t) (KV.downs vs)=some (β,xs.map (cF H.ag T),l)
 | [],K,h=>⟨[],false,[],h,rfl⟩
 |v::vs,K,h=>by
  simp only[Hk]at h;obtain⟨x,β1,J,h,N⟩:=E3 ht hT h;obtain⟨xs,β2,M,h,I⟩:=Ca ht hT h;exact⟨x::xs,β1||β2,J++M,h,by simp[KV.downs,fG,N,I]⟩
theorem zB{k:IntKind}: ∀{vs:List KV} {xs:List Int},y9 k vs=some xs->eM k (KV.downs vs)=some xs
 | [],xs,h=>by simp only[y9,Option.some.injEq]at h;subst h;rfl
 |v::vs,xs,h=>by
  unfold y9 at h;split at h
  ·rename_i H;cases H
  ·rename_i k' x r' H;obtain⟨rfl,rfl⟩:=yx H;rw[bP]at h;obtain⟨J,h⟩:=h;split at h
   ·rename_i ys I;obtain rfl:=ya h;simp[KV.downs,KV.down,eM,J,zB I]
   ·cases h
  ·cases h
theorem Ia{op:BinOp}{H I:IntKind}{a b:Int}{k:Value->Option R}(h:KJ (aQ R) op H a I b k=some r): ∃v,pM op (.int H a) (.int I b)=some v/\k v=some r:=by
 cases op<;>simp only[KJ,real_guard,bP]at h<;>simp only[pM,dS]
 all_goals first
  |exact⟨_,⟨h.1,h.2.1,rfl⟩,h.2.2⟩
  |exact⟨_,⟨h.1,rfl⟩,h.2⟩
  |exact⟨_,⟨h.1.1,h.1.2,rfl⟩,h.2⟩
theorem I3{H:Bool}{op:BinOp}{x y:Value}{k:Value->Option R}(h:JY (aQ R) H op x y k=some r): ∃v,pM op x y=some v/\k v=some r/\(∀a b,x= .bool a->y= .bool b->H=true):=by
 unfold JY at h;split at h
 ·obtain⟨v,K,I⟩:=Ia h;exact⟨v,K,I,λ_ _ h=>by cases h⟩
 ·rename_i a b;rw[bP]at h;obtain⟨J,h⟩:=h;split at h<;>first|cases h|exact⟨_,rfl,h,λ_ _ _ _=>J⟩
 ·rename_i a b;split at h<;>first|cases h|exact⟨_,rfl,h,λ_ _ h=>by cases h⟩
 ·cases h
theorem Dd{k:IntKind}{a:KV}(h:gM (.int k) a=true): ∃H x,a= .lit (.int H x):=by
 cases a with
 |lit v=>cases v<;>first|exact⟨_,_,rfl⟩|cases h
 |_=>cases h
theorem A6{a:KV}(h:gM .bool a=true): ∃x,a= .lit (.bool x):=by
 cases a with
 |lit v=>cases v<;>first|exact⟨_,rfl⟩|cases h
 |_=>cases h
theorem Dm{a:KV}(h:gM .str a=true): ∃x,a= .lit (.string x):=by
 cases a with
 |lit v=>cases v<;>first|exact⟨_,rfl⟩|cases h
 |_=>cases h
theorem Bx{T:Ty}{t:TypeId}{a b:KV}{k:Bool->Option R}(K:gM T a=true)(M:gM T b=true)
  (ht:CQ P t T=true) (h:CC a b k=some r): ∃q,A8 P t a.down b.down=some q/\k q=some r:=by
 have H:(∃I,T= .int I/\P.underlying t=some (.int I))\/(T= .bool/\P.underlying t=some .bool)\/(T= .str/\P.underlying t=some .string):=by
  unfold CQ at ht;split at ht
  ·rename_i I H;split at ht
   ·exact .inl ⟨I,by rw[qK.1 ht],H⟩
   ·cases ht
  ·rename_i H;split at ht
   ·exact .inr (.inl ⟨rfl,H⟩)
   ·cases ht
  ·rename_i H;split at ht
   ·exact .inr (.inr ⟨rfl,H⟩)
   ·cases ht
  ·cases ht
 rcases H with ⟨I,rfl,H⟩|⟨rfl,H⟩|⟨rfl,H⟩
 ·obtain⟨J,x,rfl⟩: ∃J x,a= .lit (.int J x):=Dd K;obtain⟨kb,y,rfl⟩: ∃J x,b= .lit (.int J x):=Dd M;simp only[CC]at h;rw[bP]at h;exact⟨x==y,by simp[A8,KV.down,H,guardB,h.1],h.2⟩
 ·obtain⟨x,rfl⟩: ∃x,a= .lit (.bool x):=A6 K;obtain⟨y,rfl⟩: ∃x,b= .lit (.bool x):=A6 M;exact⟨x==y,by simp only[A8,KV.down,H],h⟩
 ·obtain⟨x,rfl⟩: ∃x,a= .lit (.string x):=Dm K;obtain⟨y,rfl⟩: ∃x,b= .lit (.string x):=Dm M;exact⟨_,by simp only[A8,KV.down,H];rfl,h⟩
theorem yV: ∀{fs:List Field} {n:Nat} {J:List Ty} {as bs:List KV} {k:Bool->Option R},Cd P fs n J=true->aU J as=true->aU J bs=true->l5 as bs k=some r->
  ∃q,jZ P fs n (KV.downs as) (KV.downs bs)=some q/\k q=some r
 | [],n,[],as,bs,k,K,H,I,h=>by
  cases as with
  |cons=>simp[aU]at H
  |nil=>
   cases bs with
   |cons=>simp[aU]at I
   |nil=>exact⟨true,rfl,h⟩
 |f::fs,n,T::J,as,bs,k,K,H,I,h=>by
  cases as with
  |nil=>simp[aU]at H
  |cons a as=>
   cases bs with
   |nil=>simp[aU]at I
   |cons b bs=>
    simp only[aU,yb]at H I;simp only[Cd,yb]at K;obtain⟨⟨⟨O,W⟩,V⟩,U⟩:=K;cases as with
    |nil=>
     cases bs with
     |nil=>
      simp only[l5]at h;obtain⟨q,N,Z⟩:=Bx H.1 I.1 V h;cases J with
      |cons=>simp[aU]at H
      |nil=>
       cases fs with
       |cons=>simp[Cd]at U
       |nil=>exact⟨q,by simp[KV.downs,jZ,guardB,O,W,N],Z⟩
     |cons Y bs=>cases J<;>simp[aU]at H I
    |cons a' as=>
     cases bs with
     |nil=>cases J<;>simp[aU]at H I
     |cons Y bs=>
      simp only[l5]at h;obtain⟨q,N,h⟩:=Bx H.1 I.1 V h;obtain⟨q',M,h⟩:=yV U H.2 I.2 h;refine⟨q&&q',?_,h⟩;simp only[KV.downs]at M⊢
      simp[jZ,guardB,O,W,N,M]
 | [],n,T::J,as,bs,k,K,H,I,h=>by simp[Cd]at K
 |f::fs,n,[],as,bs,k,K,H,I,h=>by simp[Cd]at K
theorem Eo{t:TypeId}(ht:bL P tab)(h:KZ tab t=true):Am P t=true:=by
 unfold KZ at h;split at h
 ·rename_i ti J;have H:=(bT.of (ht _ _ J)).tk;unfold m9 at H;unfold Am;split at h
  ·rename_i I;rw[I]at H;cases K:P.underlying t with
   |none=>rw[K]at H;simp at H
   |some d=>rw[K]at H;cases d<;>simp_all
  ·cases h
 ·cases h
theorem MM{op:BinOp}{t:TypeId}{a b:Value}(h:a= .slice none 0 0->b= .slice none 0 0->False):qJ P op t (.lit a) (.lit b)=guardB (CV P t a b) ((pM op a b).map .lit):=by
 unfold qJ;split<;>first|(rename_i I H;cases I;cases H;exact absurd rfl (λ_=>h rfl rfl))|(simp_all;done)
theorem iO(ag:Bool)(T:Ty)(xs:List (den T)):jH (c8 ag T xs)=some xs.isEmpty:=by
 cases h:fZ ag T with
 |true=>
  obtain⟨rfl,k,rfl⟩:=aN.1 h;rfl
 |false=>rw[bU h];simp[jH]
theorem LL(ht:bL P tab){op:BinOp}{t:TypeId}{x y:KV}{k:KV->Option R}(h:OU (aQ R) tab op t x y k=some r): ∃v,qJ P op t x.down y.down=some v.down/\k v=some r:=by
 unfold OU at h;split at h
 ·rename_i β ag T xs;rw[bP]at h;obtain⟨hs,h⟩:=h;have hs:=Eo ht hs;split at h
  ·simp only[real_ite]at h;cases K:xs.isEmpty with
   |true=>rw[K]at h;exact⟨.unkB,by simp[qJ,KV.down,guardB,hs,iO,K],h⟩
   |false=>rw[K]at h;exact⟨.lit (.bool false),by simp[qJ,KV.down,guardB,hs,iO,K],h⟩
  ·simp only[real_ite]at h;cases K:xs.isEmpty with
   |true=>rw[K]at h;exact⟨.unkB,by simp[qJ,KV.down,guardB,hs,iO,K],h⟩
   |false=>rw[K]at h;exact⟨.lit (.bool true),by simp[qJ,KV.down,guardB,hs,iO,K],h⟩
  ·cases h
 ·rw[bP]at h;obtain⟨hs,h⟩:=h;have hs:=Eo ht hs;split at h
  ·exact⟨.lit (.bool true),by simp[qJ,KV.down,guardB,hs],h⟩
  ·exact⟨.lit (.bool false),by simp[qJ,KV.down,guardB,hs],h⟩
  ·cases h
 ·rename_i a b hne;obtain⟨v,hv,M,hb⟩:=I3 h;refine⟨.lit v,?_,M⟩;rw[show KV.down (.lit a)= .lit a from rfl,show KV.down (.lit b)= .lit b from rfl,MM hne];simp only[KV.down,dS,hv,yh];refine⟨?_,trivial⟩;unfold CV;split
  ·rename_i a b;have:=hb _ _ rfl rfl;unfold Lr at this;split at this
   ·rename_i ti J;have H:=(bT.of (ht _ _ J)).tk;unfold m9 at H;unfold GH;split at this
    ·rename_i O;rw[O]at H;cases N:P.underlying t with
     |none=>rw[N]at H;simp at H
     |some d=>rw[N]at H;cases d<;>simp_all
    ·cases this
   ·cases this
  ·rfl
 ·rename_i a b;split at h
  ·rename_i T hT;rw[bP]at h;obtain⟨hg,h⟩:=h;simp only[yb]at hg;unfold eqTy? at hT;split at hT
   ·rename_i ti J;rw[bP]at hT;obtain⟨fs,T',N,V,Z,Y,hc⟩:=(bT.of (ht _ _ J)).eq hT.1;rw[hT.2]at V;obtain rfl:=ya V;have U: ∀{k:Bool->Option R},l5 a b k=some r->∃q,lI P t (KV.downs a) (KV.downs b)=some q/\k q=some r:=by
     intro k M;obtain⟨q,W,M⟩:=yV hc hg.1.2 hg.2 M;refine⟨q,?_,M⟩;unfold lI;simp only[N,dS,yb];exact⟨⟨Z,Y⟩,W⟩
    split at h
    ·obtain⟨q,W,M⟩:=U h;exact⟨.lit (.bool q),by simp[qJ,KV.down,W],M⟩
    ·obtain⟨q,W,M⟩:=U h;exact⟨.lit (.bool (!q)),by simp[qJ,KV.down,W],M⟩
    ·cases h
   ·cases hT
  ·cases h
 ·rw[bP]at h;obtain⟨hp,h⟩:=h;have I:=isPtrK_some ht hp;split at h
  ·exact⟨.lit (.bool false),by simp[qJ,KV.down,guardB,I],h⟩
  ·exact⟨.lit (.bool true),by simp[qJ,KV.down,guardB,I],h⟩
  ·cases h
 ·rw[bP]at h;obtain⟨hp,h⟩:=h;have I:=isPtrK_some ht hp;split at h
  ·exact⟨.lit (.bool false),by simp[qJ,KV.down,guardB,I],h⟩
  ·exact⟨.lit (.bool true),by simp[qJ,KV.down,guardB,I],h⟩
  ·cases h
 ·cases h
 where
 isPtrK_some {t:TypeId} (ht:bL P tab) (h:J7 tab t=true):Gr P t=true:=by
  unfold J7 at h;split at h
  ·rename_i ti J;have H:=(bT.of (ht _ _ J)).tk;unfold m9 at H;unfold Gr;split at h
   ·rename_i O;rw[O]at H;cases N:P.underlying t with
    |none=>rw[N]at H;simp at H
    |some d=>rw[N]at H;cases d<;>simp_all
   ·cases h
  ·cases h
theorem Nc{op:UnOp}{x:KV}{k:KV->Option R}(h:Pz op x k=some r): ∃a v,x= .lit a/\F0 op a=some v/\k (.lit v)=some r:=by
 unfold Pz at h;split at h
 ·rename_i a;split at h<;>first|cases h|exact⟨_,_,rfl,rfl,h⟩
 ·cases h
theorem eR{len:Nat}{K J I:Option Int}{k:Nat->Nat->Option R}(h:jT (aQ R) len K J I k=some r): ∃b,fQ len K J I=some b/\k b.1 b.2=some r:=by
 have H: ∀{y d:Nat} {x:Option Int} {k:Nat->Option R},zW (aQ R) y x d k=some r->∃b,w6 y x d=some b/\k b=some r:=by
  intro y d x k h;cases x with
  |none=>exact⟨d,rfl,h⟩
  |some i=>
   simp only[zW,real_guard,bP]at h;exact⟨i.toNat,by simp only[w6,dS];exact⟨h.1,trivial⟩,h.2⟩
 unfold jT at h;rw[bP]at h;obtain⟨M,h⟩:=h;obtain⟨m,hm,h⟩:=H h;obtain⟨q,O,h⟩:=H h;obtain⟨l,N,h⟩:=H h;exact⟨(l,q),by simp[fQ,guardB,M,hm,O,N],h⟩
end
end Go.Ab
