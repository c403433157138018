import Derived.Test.YtjjjbgicidhpfaaDoorLib25
set_option linter.unusedVariables false
set_option linter.unusedSectionVars false
set_option linter.unusedSimpArgs false
namespace Go.Ab
variable [b3]
theorem cR{args:List KV}{v:AV}(h:KV.downs args= [v]): ∃u,args= [u]/\u.down=v:=by
 match args,h with
 | [u],h=>exact⟨u,rfl,(yx h).1⟩
 | [],h=>cases h
 |_::_::_,h=>cases h
theorem J3{args:List KV}{v:AV}{r:List AV}(h:KV.downs args=v::r): ∃u us,args=u::us/\u.down=v/\KV.downs us=r:=by
 match args,h with
 |u::us,h=>exact⟨u,us,rfl,(yx h).1,(yx h).2⟩
 | [],h=>cases h
theorem lC: ∀{s:Sh} {args:List KV} {x:s.den},kO s (KV.downs args) x->i5 s args=true
 | .int k,args,x,h=>by
  obtain⟨u,rfl,H⟩:=cR h;cases u<;>first|(cases H;done)|skip
  rename_i v;have H:AV.lit v= .lit (.int k x):=H;obtain rfl:=AV.lit.inj H;rfl
 | .bool,args,x,h=>by
  obtain⟨u,rfl,H⟩:=cR h;cases u<;>first|(cases H;done)|skip
  rename_i v;have H:AV.lit v= .lit (.bool x):=H;obtain rfl:=AV.lit.inj H;rfl
 | .str,args,x,h=>by
  obtain⟨u,rfl,H⟩:=cR h;cases u<;>first|(cases H;done)|skip
  rename_i v;have H:AV.lit v= .lit (.string x):=H;obtain rfl:=AV.lit.inj H;rfl
 | .nilS,args,x,h=>by
  obtain⟨u,rfl,H⟩:=cR h;cases u<;>first|(cases H;done)|skip
  rename_i v;obtain rfl:=AV.lit.inj H;rfl
 | .nilP,args,x,h=>by
  obtain⟨u,rfl,H⟩:=cR h;cases u<;>first|(cases H;done)|skip
  rename_i v;obtain rfl:=AV.lit.inj H;rfl
 | .undef,args,x,h=>by
  obtain⟨u,rfl,H⟩:=cR h;cases u<;>first|(cases H;done)|skip
  rename_i v;obtain rfl:=AV.lit.inj H;rfl
 | .sl β ag T,args,x,h=>by
  rcases h with ⟨β',_,h⟩|⟨h,_⟩
  ·obtain⟨u,rfl,H⟩:=cR h;have hs:=pT ag T x;cases u with
   |tsl _ _ _ _=>rfl
   |dead=>rw[<-(AV.imm.inj H).2]at hs;cases hs
   |gone=>rw[<-(AV.imm.inj H).2]at hs;cases hs
   |unkB=>rw[<-(AV.imm.inj H).2]at hs;cases hs
   |_=>cases H
  ·obtain⟨u,rfl,H⟩:=cR h;cases u<;>first|(cases H;done)|skip
   rename_i v;obtain rfl:=AV.lit.inj H;rfl
 | .el β ag T c,args,x,h=>by
  obtain⟨β',_,h⟩:=h;obtain⟨u,rfl,H⟩:=cR h;cases u<;>first|(cases H;done)|skip
  rename_i c';have:=(AV.el.inj H).2.2;subst this;exact cG.2 rfl
 | .ptr b g i c,args,x,h=>by
  obtain⟨u,rfl,H⟩:=cR h;cases u<;>first|(cases H;done)|skip
  obtain⟨rfl,rfl,rfl,rfl⟩:=AV.ptr.inj H
  show(fD _ _&&fD _ _&&fD _ _&&fD _ _)=true
  simp[cG]
 | .ptrI b g c,args,x,h=>by
  obtain⟨u,rfl,H⟩:=cR h;cases u<;>first|(cases H;done)|skip
  obtain⟨rfl,rfl,_,rfl⟩:=AV.ptr.inj H
  show(fD _ _&&fD _ _&&fD _ _)=true
  simp[cG]
 | .ms b g,args,x,h=>by
  obtain⟨u,rfl,H⟩:=cR h;cases u<;>first|(cases H;done)|skip
  obtain⟨rfl,rfl,_,_⟩:=AV.ms.inj H
  show(fD _ _&&fD _ _)=true
  simp[cG]
 | .msw b g,args,x,h=>by
  obtain⟨u,rfl,H⟩:=cR h;cases u<;>first|(cases H;done)|skip
  obtain⟨rfl,rfl⟩:=AV.msw.inj H
  show(fD _ _&&fD _ _)=true
  simp[cG]
 | .fn f M O,args,x,h=>by
  obtain⟨N,K,h,I,J⟩:=h;obtain⟨u,rfl,H⟩:=cR h;cases u<;>first|(cases H;done)|skip
  obtain⟨rfl,rfl,rfl⟩:=AV.fn.inj H
  show(fD f f&&i5 M _&&i5 O _)=true
  simp[cG,lC I,lC J]
 | .agg l,args,x,h=>by
  obtain⟨cs,h,I⟩:=h;obtain⟨u,rfl,H⟩:=cR h;cases u<;>first|(cases H;done)|skip
  obtain rfl:=AV.agg.inj H;exact lC (s:=l) I
 | .tup l,args,x,h=>by
  obtain⟨cs,h,I⟩:=h;obtain⟨u,rfl,H⟩:=cR h;cases u<;>first|(cases H;done)|skip
  obtain rfl:=AV.tup.inj H;exact lC (s:=l) I
 | .nil,args,x,h=>by
  cases args with
  |nil=>rfl
  |cons _ _=>cases h
 | .cons a b,args,x,h=>by
  obtain⟨v,r,h,I,J⟩:=h;obtain⟨u,us,rfl,rfl,rfl⟩:=J3 h
  show(i5 a [u]&&i5 b us)=true
  rw[yb];exact⟨lC (s:=a) (args:= [u]) I,lC J⟩
 | .bnone,args,x,h=>h.elim
 | .bts _ _ _ _ _,args,x,h=>h.elim
 | .bcells _ _ _ _,args,x,h=>h.elim
 | .bos _ _ _ _,args,x,h=>h.elim
def Sh.oneM:Sh->Bool
 | .bnone=>true
 | .bts _ _ _ _ _=>true
 | .bcells _ _ _ _=>true
 | .bos _ _ _ _=>true
 |_=>false
def Sh.okH:Sh->Bool
 | .nil=>true
 | .cons (.agg (.cons (.ptrI b g c) (.cons v .nil))) r=>fD b 0&&fD g 0&&v.one&&r.okH
 |_=>false
def Sh.okM:Sh->Bool
 | .nil=>true
 | .cons a b=>a.oneM&&a.okM&&b.okM
 | .bnone=>true
 | .bts _ _ _ _ _=>true
 | .bcells _ _ _ l=>l.okL
 | .bos _ _ _ l=>l.okL&&l.okH
 |_=>false
def K5(vs:List KV):Prop:= ∀v∈vs,∃i c w,v= .agg [.ptr 0 0 i c,w]
theorem K5.eq: ∀{vs:List KV},K5 vs->jR (gP vs)=vs
 | [],_=>rfl
 |v::vs,h=>by
  obtain⟨i,c,w,rfl⟩:=h v (ym ..);have H:=K5.eq (vs:=vs) λv I=>h v (yg _ I);show KV.agg _::jR (gP vs)=_;rw[H]
theorem Oo{v:Sh}(I:v.one=true)(d:(Sh.cons v .nil).den): ∃w,c6 (.cons v .nil) d= [w]:=by
 obtain⟨w,H⟩:=Hb I (P2.fst v.dflt v.un Sh.nil.un d);refine⟨w,?_⟩;show c6 v (P2.fst v.dflt v.un Sh.nil.un d)++ []=_;rw[H];rfl
theorem MN{c:Nat}{v:Sh}(H:v.one=true)(d:(Sh.agg (.cons (.ptrI 0 0 c) (.cons v .nil))).den): ∃i w,c6 (.agg (.cons (.ptrI 0 0 c) (.cons v .nil))) d= [.agg [.ptr 0 0 i c,w]]:=by
 obtain⟨w,I⟩:=Oo H (P2.snd (Sh.cons v .nil).dflt (Sh.ptrI 0 0 c).un (Sh.cons v .nil).un d);refine⟨P2.fst (Sh.ptrI 0 0 c).dflt (Sh.ptrI 0 0 c).un (Sh.cons v .nil).un d,w,?_⟩;show [KV.agg ([KV.ptr 0 0 _ c]++c6 (.cons v .nil) (P2.snd (Sh.cons v .nil).dflt (Sh.ptrI 0 0 c).un (Sh.cons v .nil).un d))]=_;rw[I];rfl
theorem F2: ∀{l:Sh},l.okH=true->∀p:l.den,K5 (c6 l p)
 | .nil,_,_=>λv I=>by cases I
 | .cons (.agg (.cons (.ptrI b g c) (.cons v .nil))) r,h,p=>by
  have J:(fD b 0&&fD g 0&&v.one&&r.okH)=true:=h;simp only[yb,cG]at J;obtain⟨⟨⟨rfl,rfl⟩,I⟩,hr⟩:=J;intro u H;have H:u∈c6 (.agg (.cons (.ptrI 0 0 c) (.cons v .nil))) (P2.fst (Sh.agg (.cons (.ptrI 0 0 c) (.cons v .nil))).dflt (Sh.agg (.cons (.ptrI 0 0 c) (.cons v .nil))).un r.un p)++c6 r (P2.snd r.dflt (Sh.agg (.cons (.ptrI 0 0 c) (.cons v .nil))).un r.un p):=H;obtain⟨i,w,e⟩:=MN (c:=c) I (P2.fst (Sh.agg (.cons (.ptrI 0 0 c) (.cons v .nil))).dflt (Sh.agg (.cons (.ptrI 0 0 c) (.cons v .nil))).un r.un p);rw[e]at H;rcases yn1.1 H with H|H
  ·exact⟨i,c,w,yb2.1 H⟩
  ·exact F2 hr _ u H
theorem Au{l:Sh}(h:l.okH=true)(p:l.den):jR (gP (c6 l p))=c6 l p:=(F2 h p).eq
noncomputable def K3:List (Nat×Nat×AV)->List AV
 | []=> []
 |h::r=> .agg [.ptr 0 0 h.1 h.2.1,h.2.2]::K3 r
theorem mV: ∀hs:cK,KV.downs (jR hs)=K3 (a8 hs)
 | []=>rfl
 |h::r=>by
  show _::KV.downs (jR r)=_;rw[mV r];rfl
theorem Ej{s:Sh}(h:s.oneM=true)(d:s.den): ∃x,fM s d= [x]:=by
 cases s<;>first|(cases h;done)|exact⟨_,rfl⟩
theorem Kc{β ag:Bool}{T:Ty}{xs I:List (den T)}(h:(KRow.ts β ag T xs).down=(KRow.ts β ag T I).down):xs=I:=by
 cases H:aY ag T with
 |true=>
  obtain⟨rfl,k,rfl⟩:=aN.1 H;exact(aX.ints.inj h).2
 |false=>
  rw[KRow.down_sl H,KRow.down_sl H]at h;exact CE (λx y=>Fc) (aX.pvs.inj h).2.2
theorem CM: ∀{s:Sh} {x y:s.den},s.okM=true->aB (fM s x)=aB (fM s y)->x=y
 | .nil,x,y,_,_=>rfl
 | .bnone,x,y,_,_=>rfl
 | .bts gen frz β ag T,x,y,_,h=>by
  have h:=ya (yx h).1;exact Kc (congrArg bG.row h)
 | .bcells gen frz e l,x,y,I,h=>by
  have h:=ya (yx h).1;have M:aX.cells e (KV.downs (c6 l x))= .cells e (KV.downs (c6 l y)):=congrArg bG.row h;have N:=(aX.cells.inj M).2;have r1:=kO.refl (s:=l) I x;have K:=kO.refl (s:=l) I y;rw[N]at r1;exact kO.unique (s:=l) r1 K
 | .bos gen frz T l,x,y,I,h=>by
  have H:(l.okL&&l.okH)=true:=I;rw[yb]at H;have h:=ya (yx h).1;have M:(KRow.os T (P2.fst (A:=List (Go.Ab.den T)) [] false l.un x) (gP (c6 l (P2.snd l.dflt false l.un x)))).down=(KRow.os T (P2.fst (A:=List (Go.Ab.den T)) [] false l.un y) (gP (c6 l (P2.snd l.dflt false l.un y)))).down:=congrArg bG.row h;obtain⟨_,N,Y⟩:=aX.own.inj M;have W:KV.downs (c6 l (P2.snd l.dflt false l.un x))=KV.downs (c6 l (P2.snd l.dflt false l.un y)):=by
   have J:=congrArg KV.downs (Au H.2 (P2.snd l.dflt false l.un x));have U:=congrArg KV.downs (Au H.2 (P2.snd l.dflt false l.un y));rw[mV]at J U;rw[<-J,<-U,Y]
  have r1:=kO.refl (s:=l) H.1 (P2.snd l.dflt false l.un x);have K:=kO.refl (s:=l) H.1 (P2.snd l.dflt false l.un y);rw[W]at r1;exact P2.ext (da:= []) (db:=l.dflt) (CE (λx y=>Fc) N) (kO.unique (s:=l) r1 K)
 | .cons a b,x,y,I,h=>by
  have H:(a.oneM&&a.okM&&b.okM)=true:=I;simp only[yb]at H;have O:aB (fM a (P2.fst a.dflt a.un b.un x)++fM b (P2.snd b.dflt a.un b.un x))=aB (fM a (P2.fst a.dflt a.un b.un y)++fM b (P2.snd b.dflt a.un b.un y)):=h;obtain⟨u,V⟩:=Ej H.1.1 (P2.fst a.dflt a.un b.un x);obtain⟨v,Z⟩:=Ej H.1.1 (P2.fst a.dflt a.un b.un y);have J:aB (fM a (P2.fst a.dflt a.un b.un x))=aB (fM a (P2.fst a.dflt a.un b.un y))/\aB (fM b (P2.snd b.dflt a.un b.un x))=aB (fM b (P2.snd b.dflt a.un b.un y)):=by
   rw[V,Z]at O⊢
   have:=yx O;exact⟨congrArg (λz=> [z]) this.1,this.2⟩
  exact P2.ext (CM H.1.2 J.1) (CM H.2 J.2)
 | .int _,x,y,I,h| .bool,x,y,I,h| .str,x,y,I,h| .nilS,x,y,I,h| .nilP,x,y,I,h| .undef,x,y,I,h| .sl _ _ _,x,y,I,h| .el _ _ _ _,x,y,I,h| .ptr _ _ _ _,x,y,I,h
 | .ptrI _ _ _,x,y,I,h| .ms _ _,x,y,I,h| .msw _ _,x,y,I,h| .fn _ _ _,x,y,I,h| .agg _,x,y,I,h| .tup _,x,y,I,h=>by cases I
theorem s6{mem:aE}{v:Option bG}(h:aB mem= [v]): ∃u,mem= [u]/\u.map cS.down=v:=by
 match mem,h with
 | [u],h=>exact⟨u,rfl,(yx h).1⟩
 | [],h=>cases h
 |_::_::_,h=>cases h
theorem Fg: ∀{s:Sh} {mem:aE} {x:s.den},s.okM=true->aB mem=aB (fM s x)->Bz s mem=true
 | .nil,mem,x,_,h=>by
  cases mem with
  |nil=>rfl
  |cons _ _=>cases h
 | .bnone,mem,x,_,h=>by
  obtain⟨u,rfl,H⟩:=s6 (v:=none) h;cases u with
  |none=>rfl
  |some _=>cases H
 | .bts gen frz β ag T,mem,x,_,h=>by
  obtain⟨u,rfl,H⟩:=s6 h;cases u with
  |none=>cases H
  |some u=>
   have H:=ya H;obtain⟨g',K,row⟩:=u;have O:g'=gen:=congrArg bG.gen H;have U:K=frz:=congrArg bG.frz H;have M:row.down=(KRow.ts β ag T x).down:=congrArg bG.row H;subst O;subst U;cases row with
   |ts β' V N xs=>
    show(fD g' g'&&dY K K)=true
    cases K<;>simp[cG,dY]
   |cells e cs=>
    exfalso;have:=congrArg aX.isCells M;rw[eS,eS]at this;cases this
   |os N xs hs=>
    exfalso;have:=congrArg aX.isOwn M;rw[c5,c5]at this;cases this
 | .bcells gen frz e l,mem,x,I,h=>by
  obtain⟨u,rfl,H⟩:=s6 h;cases u with
  |none=>cases H
  |some u=>
   have H:=ya H;obtain⟨g',K,row⟩:=u;have O:g'=gen:=congrArg bG.gen H;have U:K=frz:=congrArg bG.frz H;have M:row.down=(KRow.cells e (c6 l x)).down:=congrArg bG.row H;subst O;subst U;cases row with
   |ts β' V N xs=>
    exfalso;have:=congrArg aX.isCells M;rw[eS,eS]at this;cases this
   |os N xs hs=>
    exfalso;have:=congrArg aX.isOwn M;rw[c5,c5]at this;cases this
   |cells Y cs=>
    obtain⟨h4,Z⟩:=aX.cells.inj M;subst h4;have r1:=kO.refl (s:=l) I x;rw[<-Z]at r1
    show(fD g' g'&&dY K K&&fD Y Y&&i5 l cs)=true
    have:=lC (s:=l) r1;cases K<;>simp[cG,dY,this]
 | .bos gen frz T l,mem,x,I,h=>by
  have J:(l.okL&&l.okH)=true:=I;rw[yb]at J;obtain⟨u,rfl,H⟩:=s6 h;cases u with
  |none=>cases H
  |some u=>
   have H:=ya H;obtain⟨g',K,row⟩:=u;have O:g'=gen:=congrArg bG.gen H;have U:K=frz:=congrArg bG.frz H;have M:row.down=(KRow.os T (P2.fst (A:=List (Go.Ab.den T)) [] false l.un x) (gP (c6 l (P2.snd l.dflt false l.un x)))).down:=congrArg bG.row H;subst O;subst U;cases row with
   |ts β' V N xs=>
    exfalso;have:=congrArg aX.isOwn M;rw[c5,c5]at this;cases this
   |cells Y cs=>
    exfalso;have:=congrArg aX.isOwn M;rw[c5,c5]at this;cases this
   |os N xs hs=>
    obtain⟨_,_,Z⟩:=aX.own.inj M;have r1:=kO.refl (s:=l) J.1 (P2.snd l.dflt false l.un x);have e1:=congrArg KV.downs (Au J.2 (P2.snd l.dflt false l.un x));rw[mV,<-Z,<-mV]at e1;rw[<-e1]at r1
    show(fD g' g'&&dY K K&&i5 l (jR hs))=true
    have:=lC (s:=l) r1;cases K<;>simp[cG,dY,this]
 | .cons a b,mem,x,I,h=>by
  have J:(a.oneM&&a.okM&&b.okM)=true:=I;simp only[yb]at J;obtain⟨u,H⟩:=Ej J.1.1 (P2.fst a.dflt a.un b.un x);have W:aB mem=aB (fM a (P2.fst a.dflt a.un b.un x)++fM b (P2.snd b.dflt a.un b.un x)):=h;rw[H]at W;cases mem with
  |nil=>cases W
  |cons y r=>
   have:=yx W
   show(Bz a [y]&&Bz b r)=true
   rw[yb];refine⟨Fg (s:=a) (x:=P2.fst a.dflt a.un b.un x) J.1.2 ?_,Fg J.2 this.2⟩;rw[H];exact congrArg (λz=> [z]) this.1
 | .int _,m,x,I,h| .bool,m,x,I,h| .str,m,x,I,h| .nilS,m,x,I,h| .nilP,m,x,I,h| .undef,m,x,I,h| .sl _ _ _,m,x,I,h| .el _ _ _ _,m,x,I,h| .ptr _ _ _ _,m,x,I,h
 | .ptrI _ _ _,m,x,I,h| .ms _ _,m,x,I,h| .msw _ _,m,x,I,h| .fn _ _ _,m,x,I,h| .agg _,m,x,I,h| .tup _,m,x,I,h=>by cases I
end Go.Ab
