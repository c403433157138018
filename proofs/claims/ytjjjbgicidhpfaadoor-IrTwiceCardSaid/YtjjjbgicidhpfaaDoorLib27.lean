import Derived.Test.YtjjjbgicidhpfaaDoorLib26
set_option linter.unusedVariables false
set_option linter.unusedSectionVars false
set_option linter.unusedSimpArgs false
namespace Go.Ab
variable [cF]
theorem dD{args:List KV}{v:AV}(h:KV.downs args= [v]): ∃u,args= [u]/\u.down=v:=by
 match args,h with
 | [u],h=>exact⟨u,rfl,(yb1 h).1⟩
 | [],h=>cases h
 |_::_::_,h=>cases h
theorem NX{args:List KV}{v:AV}{r:List AV}(h:KV.downs args=v::r): ∃u us,args=u::us/\u.down=v/\KV.downs us=r:=by
 match args,h with
 |u::us,h=>exact⟨u,us,rfl,(yb1 h).1,(yb1 h).2⟩
 | [],h=>cases h
theorem nJ: ∀{s:Sh} {args:List KV} {x:s.den},m8 s (KV.downs args) x->kZ s args=true
 | .int k,args,x,h=>by
  obtain⟨u,rfl,H⟩:=dD h;cases u<;>first|(cases H;done)|skip
  rename_i v;have H:AV.lit v= .lit (.int k x):=H;obtain rfl:=AV.lit.inj H;rfl
 | .bool,args,x,h=>by
  obtain⟨u,rfl,H⟩:=dD h;cases u<;>first|(cases H;done)|skip
  rename_i v;have H:AV.lit v= .lit (.bool x):=H;obtain rfl:=AV.lit.inj H;rfl
 | .str,args,x,h=>by
  obtain⟨u,rfl,H⟩:=dD h;cases u<;>first|(cases H;done)|skip
  rename_i v;have H:AV.lit v= .lit (.string x):=H;obtain rfl:=AV.lit.inj H;rfl
 | .nilS,args,x,h=>by
  obtain⟨u,rfl,H⟩:=dD h;cases u<;>first|(cases H;done)|skip
  rename_i v;obtain rfl:=AV.lit.inj H;rfl
 | .nilP,args,x,h=>by
  obtain⟨u,rfl,H⟩:=dD h;cases u<;>first|(cases H;done)|skip
  rename_i v;obtain rfl:=AV.lit.inj H;rfl
 | .undef,args,x,h=>by
  obtain⟨u,rfl,H⟩:=dD h;cases u<;>first|(cases H;done)|skip
  rename_i v;obtain rfl:=AV.lit.inj H;rfl
 | .sl β ag T,args,x,h=>by
  rcases h with ⟨β',_,h⟩|⟨h,_⟩
  ·obtain⟨u,rfl,H⟩:=dD h;have hs:=s5 ag T x;cases u with
   |tsl _ _ _ _=>rfl
   |dead=>rw[<-(AV.imm.inj H).2]at hs;cases hs
   |gone=>rw[<-(AV.imm.inj H).2]at hs;cases hs
   |unkB=>rw[<-(AV.imm.inj H).2]at hs;cases hs
   |_=>cases H
  ·obtain⟨u,rfl,H⟩:=dD h;cases u<;>first|(cases H;done)|skip
   rename_i v;obtain rfl:=AV.lit.inj H;rfl
 | .el β ag T c,args,x,h=>by
  obtain⟨β',_,h⟩:=h;obtain⟨u,rfl,H⟩:=dD h;cases u<;>first|(cases H;done)|skip
  rename_i c';have:=(AV.el.inj H).2.2;subst this;exact cU.2 rfl
 | .ptr b g i c,args,x,h=>by
  obtain⟨u,rfl,H⟩:=dD h;cases u<;>first|(cases H;done)|skip
  obtain⟨rfl,rfl,rfl,rfl⟩:=AV.ptr.inj H
  show(gU _ _&&gU _ _&&gU _ _&&gU _ _)=true
  simp[cU]
 | .ptrI b g c,args,x,h=>by
  obtain⟨u,rfl,H⟩:=dD h;cases u<;>first|(cases H;done)|skip
  obtain⟨rfl,rfl,_,rfl⟩:=AV.ptr.inj H
  show(gU _ _&&gU _ _&&gU _ _)=true
  simp[cU]
 | .ms b g,args,x,h=>by
  obtain⟨u,rfl,H⟩:=dD h;cases u<;>first|(cases H;done)|skip
  obtain⟨rfl,rfl,_,_⟩:=AV.ms.inj H
  show(gU _ _&&gU _ _)=true
  simp[cU]
 | .msw b g,args,x,h=>by
  obtain⟨u,rfl,H⟩:=dD h;cases u<;>first|(cases H;done)|skip
  obtain⟨rfl,rfl⟩:=AV.msw.inj H
  show(gU _ _&&gU _ _)=true
  simp[cU]
 | .fn f M O,args,x,h=>by
  obtain⟨N,U,h,J,K⟩:=h;obtain⟨u,rfl,H⟩:=dD h;cases u<;>first|(cases H;done)|skip
  obtain⟨rfl,rfl,rfl⟩:=AV.fn.inj H
  show(gU f f&&kZ M _&&kZ O _)=true
  simp[cU,nJ J,nJ K]
 | .agg l,args,x,h=>by
  obtain⟨cs,h,J⟩:=h;obtain⟨u,rfl,H⟩:=dD h;cases u<;>first|(cases H;done)|skip
  obtain rfl:=AV.agg.inj H;exact nJ (s:=l) J
 | .tup l,args,x,h=>by
  obtain⟨cs,h,J⟩:=h;obtain⟨u,rfl,H⟩:=dD h;cases u<;>first|(cases H;done)|skip
  obtain rfl:=AV.tup.inj H;exact nJ (s:=l) J
 | .nil,args,x,h=>by
  cases args with
  |nil=>rfl
  |cons _ _=>cases h
 | .cons a b,args,x,h=>by
  obtain⟨v,r,h,J,K⟩:=h;obtain⟨u,us,rfl,rfl,rfl⟩:=NX h
  show(kZ a [u]&&kZ b us)=true
  rw[yc];exact⟨nJ (s:=a) (args:= [u]) J,nJ K⟩
 | .bnone,args,x,h=>h.elim
 | .bts _ _ _ _ _,args,x,h=>h.elim
 | .bcells _ _ _ _,args,x,h=>h.elim
 | .bos _ _ _ _,args,x,h=>h.elim
def Sh.oneM:Sh->Bool
 | .bnone=>true
 | .bts _ _ _ _ _=>true
 | .bcells _ _ _ _=>true
 | .bos _ _ _ _=>true
 |_=>false
def Sh.okH:Sh->Bool
 | .nil=>true
 | .cons (.agg (.cons (.ptrI b g c) (.cons v .nil))) r=>gU b 0&&gU g 0&&v.one&&r.okH
 |_=>false
def Sh.okM:Sh->Bool
 | .nil=>true
 | .cons a b=>a.oneM&&a.okM&&b.okM
 | .bnone=>true
 | .bts _ _ _ _ _=>true
 | .bcells _ _ _ l=>l.okL
 | .bos _ _ _ l=>l.okL&&l.okH
 |_=>false
def O6(vs:List KV):Prop:= ∀v∈vs,∃i c w,v= .agg [.ptr 0 0 i c,w]
theorem O6.eq: ∀{vs:List KV},O6 vs->lH (jF vs)=vs
 | [],_=>rfl
 |v::vs,h=>by
  obtain⟨i,c,w,rfl⟩:=h v (yn ..);have H:=O6.eq (vs:=vs) λv J=>h v (yj _ J);show KV.agg _::lH (jF vs)=_;rw[H]
theorem TD{v:Sh}(H:v.one=true)(d:(Sh.cons v .nil).den): ∃w,dN (.cons v .nil) d= [w]:=by
 obtain⟨w,J⟩:=Jr H (P2.fst v.dflt v.un Sh.nil.un d);refine⟨w,?_⟩;show dN v (P2.fst v.dflt v.un Sh.nil.un d)++ []=_;rw[J];rfl
theorem Rk{c:Nat}{v:Sh}(H:v.one=true)(d:(Sh.agg (.cons (.ptrI 0 0 c) (.cons v .nil))).den): ∃i w,dN (.agg (.cons (.ptrI 0 0 c) (.cons v .nil))) d= [.agg [.ptr 0 0 i c,w]]:=by
 obtain⟨w,J⟩:=TD H (P2.snd (Sh.cons v .nil).dflt (Sh.ptrI 0 0 c).un (Sh.cons v .nil).un d);refine⟨P2.fst (Sh.ptrI 0 0 c).dflt (Sh.ptrI 0 0 c).un (Sh.cons v .nil).un d,w,?_⟩;show [KV.agg ([KV.ptr 0 0 _ c]++dN (.cons v .nil) (P2.snd (Sh.cons v .nil).dflt (Sh.ptrI 0 0 c).un (Sh.cons v .nil).un d))]=_;rw[J];rfl
theorem Jh: ∀{l:Sh},l.okH=true->∀p:l.den,O6 (dN l p)
 | .nil,_,_=>λv J=>by cases J
 | .cons (.agg (.cons (.ptrI b g c) (.cons v .nil))) r,h,p=>by
  have K:(gU b 0&&gU g 0&&v.one&&r.okH)=true:=h;simp only[yc,cU]at K;obtain⟨⟨⟨rfl,rfl⟩,J⟩,hr⟩:=K;intro u H;have H:u∈dN (.agg (.cons (.ptrI 0 0 c) (.cons v .nil))) (P2.fst (Sh.agg (.cons (.ptrI 0 0 c) (.cons v .nil))).dflt (Sh.agg (.cons (.ptrI 0 0 c) (.cons v .nil))).un r.un p)++dN r (P2.snd r.dflt (Sh.agg (.cons (.ptrI 0 0 c) (.cons v .nil))).un r.un p):=H;obtain⟨i,w,e⟩:=Rk (c:=c) J (P2.fst (Sh.agg (.cons (.ptrI 0 0 c) (.cons v .nil))).dflt (Sh.agg (.cons (.ptrI 0 0 c) (.cons v .nil))).un r.un p);rw[e]at H;rcases yn1.1 H with H|H
  ·exact⟨i,c,w,yh1.1 H⟩
  ·exact Jh hr _ u H
theorem Cw{l:Sh}(h:l.okH=true)(p:l.den):lH (jF (dN l p))=dN l p:=(Jh h p).eq
noncomputable def Ps:List (Nat×Nat×AV)->List AV
 | []=> []
 |h::r=> .agg [.ptr 0 0 h.1 h.2.1,h.2.2]::Ps r
theorem pB: ∀hs:c7,KV.downs (lH hs)=Ps (bB hs)
 | []=>rfl
 |h::r=>by
  show _::KV.downs (lH r)=_;rw[pB r];rfl
theorem F2{s:Sh}(h:s.oneM=true)(d:s.den): ∃x,gX s d= [x]:=by
 cases s<;>first|(cases h;done)|exact⟨_,rfl⟩
theorem Nw{β ag:Bool}{T:Ty}{xs J:List (den T)}(h:(KRow.ts β ag T xs).down=(KRow.ts β ag T J).down):xs=J:=by
 cases H:a6 ag T with
 |true=>
  obtain⟨rfl,k,rfl⟩:=aO.1 H;exact(aZ.ints.inj h).2
 |false=>
  rw[KRow.down_sl H,KRow.down_sl H]at h;exact FP (λx y=>Hb) (aZ.pvs.inj h).2.2
theorem H1: ∀{s:Sh} {x y:s.den},s.okM=true->aB (gX s x)=aB (gX s y)->x=y
 | .nil,x,y,_,_=>rfl
 | .bnone,x,y,_,_=>rfl
 | .bts gen frz β ag T,x,y,_,h=>by
  have h:=ya (yb1 h).1;exact Nw (congrArg bK.row h)
 | .bcells gen frz e l,x,y,J,h=>by
  have h:=ya (yb1 h).1;have M:aZ.cells e (KV.downs (dN l x))= .cells e (KV.downs (dN l y)):=congrArg bK.row h;have N:=(aZ.cells.inj M).2;have r1:=m8.refl (s:=l) J x;have O:=m8.refl (s:=l) J y;rw[N]at r1;exact m8.unique (s:=l) r1 O
 | .bos gen frz T l,x,y,J,h=>by
  have H:(l.okL&&l.okH)=true:=J;rw[yc]at H;have h:=ya (yb1 h).1;have M:(KRow.os T (P2.fst (A:=List (Go.Ab.den T)) [] false l.un x) (jF (dN l (P2.snd l.dflt false l.un x)))).down=(KRow.os T (P2.fst (A:=List (Go.Ab.den T)) [] false l.un y) (jF (dN l (P2.snd l.dflt false l.un y)))).down:=congrArg bK.row h;obtain⟨_,N,h3⟩:=aZ.own.inj M;have Z:KV.downs (dN l (P2.snd l.dflt false l.un x))=KV.downs (dN l (P2.snd l.dflt false l.un y)):=by
   have K:=congrArg KV.downs (Cw H.2 (P2.snd l.dflt false l.un x));have V:=congrArg KV.downs (Cw H.2 (P2.snd l.dflt false l.un y));rw[pB]at K V;rw[<-K,<-V,h3]
  have r1:=m8.refl (s:=l) H.1 (P2.snd l.dflt false l.un x);have O:=m8.refl (s:=l) H.1 (P2.snd l.dflt false l.un y);rw[Z]at r1;exact P2.ext (da:= []) (db:=l.dflt) (FP (λx y=>Hb) N) (m8.unique (s:=l) r1 O)
 | .cons a b,x,y,J,h=>by
  have H:(a.oneM&&a.okM&&b.okM)=true:=J;simp only[yc]at H;have U:aB (gX a (P2.fst a.dflt a.un b.un x)++gX b (P2.snd b.dflt a.un b.un x))=aB (gX a (P2.fst a.dflt a.un b.un y)++gX b (P2.snd b.dflt a.un b.un y)):=h;obtain⟨u,W⟩:=F2 H.1.1 (P2.fst a.dflt a.un b.un x);obtain⟨v,Y⟩:=F2 H.1.1 (P2.fst a.dflt a.un b.un y);have K:aB (gX a (P2.fst a.dflt a.un b.un x))=aB (gX a (P2.fst a.dflt a.un b.un y))/\aB (gX b (P2.snd b.dflt a.un b.un x))=aB (gX b (P2.snd b.dflt a.un b.un y)):=by
   rw[W,Y]at U⊢
   have:=yb1 U;exact⟨congrArg (λz=> [z]) this.1,this.2⟩
  exact P2.ext (H1 H.1.2 K.1) (H1 H.2 K.2)
 | .int _,x,y,J,h| .bool,x,y,J,h| .str,x,y,J,h| .nilS,x,y,J,h| .nilP,x,y,J,h| .undef,x,y,J,h| .sl _ _ _,x,y,J,h| .el _ _ _ _,x,y,J,h| .ptr _ _ _ _,x,y,J,h
 | .ptrI _ _ _,x,y,J,h| .ms _ _,x,y,J,h| .msw _ _,x,y,J,h| .fn _ _ _,x,y,J,h| .agg _,x,y,J,h| .tup _,x,y,J,h=>by cases J
theorem zA{mem:aF}{v:Option bK}(h:aB mem= [v]): ∃u,mem= [u]/\u.map dE.down=v:=by
 match mem,h with
 | [u],h=>exact⟨u,rfl,(yb1 h).1⟩
 | [],h=>cases h
 |_::_::_,h=>cases h
theorem HQ: ∀{s:Sh} {mem:aF} {x:s.den},s.okM=true->aB mem=aB (gX s x)->Dy s mem=true
 | .nil,mem,x,_,h=>by
  cases mem with
  |nil=>rfl
  |cons _ _=>cases h
 | .bnone,mem,x,_,h=>by
  obtain⟨u,rfl,H⟩:=zA (v:=none) h;cases u with
  |none=>rfl
  |some _=>cases H
 | .bts gen frz β ag T,mem,x,_,h=>by
  obtain⟨u,rfl,H⟩:=zA h;cases u with
  |none=>cases H
  |some u=>
   have H:=ya H;obtain⟨g',M,row⟩:=u;have W:g'=gen:=congrArg bK.gen H;have O:M=frz:=congrArg bK.frz H;have N:row.down=(KRow.ts β ag T x).down:=congrArg bK.row H;subst W;subst O;cases row with
   |ts β' V U xs=>
    show(gU g' g'&&eP M M)=true
    cases M<;>simp[cU,eP]
   |cells e cs=>
    exfalso;have:=congrArg aZ.isCells N;rw[fT,fT]at this;cases this
   |os U xs hs=>
    exfalso;have:=congrArg aZ.isOwn N;rw[dM,dM]at this;cases this
 | .bcells gen frz e l,mem,x,J,h=>by
  obtain⟨u,rfl,H⟩:=zA h;cases u with
  |none=>cases H
  |some u=>
   have H:=ya H;obtain⟨g',M,row⟩:=u;have W:g'=gen:=congrArg bK.gen H;have O:M=frz:=congrArg bK.frz H;have N:row.down=(KRow.cells e (dN l x)).down:=congrArg bK.row H;subst W;subst O;cases row with
   |ts β' V U xs=>
    exfalso;have:=congrArg aZ.isCells N;rw[fT,fT]at this;cases this
   |os U xs hs=>
    exfalso;have:=congrArg aZ.isOwn N;rw[dM,dM]at this;cases this
   |cells Z cs=>
    obtain⟨h4,h5⟩:=aZ.cells.inj N;subst h4;have r1:=m8.refl (s:=l) J x;rw[<-h5]at r1
    show(gU g' g'&&eP M M&&gU Z Z&&kZ l cs)=true
    have:=nJ (s:=l) r1;cases M<;>simp[cU,eP,this]
 | .bos gen frz T l,mem,x,J,h=>by
  have K:(l.okL&&l.okH)=true:=J;rw[yc]at K;obtain⟨u,rfl,H⟩:=zA h;cases u with
  |none=>cases H
  |some u=>
   have H:=ya H;obtain⟨g',M,row⟩:=u;have W:g'=gen:=congrArg bK.gen H;have O:M=frz:=congrArg bK.frz H;have N:row.down=(KRow.os T (P2.fst (A:=List (Go.Ab.den T)) [] false l.un x) (jF (dN l (P2.snd l.dflt false l.un x)))).down:=congrArg bK.row H;subst W;subst O;cases row with
   |ts β' V U xs=>
    exfalso;have:=congrArg aZ.isOwn N;rw[dM,dM]at this;cases this
   |cells Z cs=>
    exfalso;have:=congrArg aZ.isOwn N;rw[dM,dM]at this;cases this
   |os U xs hs=>
    obtain⟨_,_,h5⟩:=aZ.own.inj N;have r1:=m8.refl (s:=l) K.1 (P2.snd l.dflt false l.un x);have e1:=congrArg KV.downs (Cw K.2 (P2.snd l.dflt false l.un x));rw[pB,<-h5,<-pB]at e1;rw[<-e1]at r1
    show(gU g' g'&&eP M M&&kZ l (lH hs))=true
    have:=nJ (s:=l) r1;cases M<;>simp[cU,eP,this]
 | .cons a b,mem,x,J,h=>by
  have K:(a.oneM&&a.okM&&b.okM)=true:=J;simp only[yc]at K;obtain⟨u,H⟩:=F2 K.1.1 (P2.fst a.dflt a.un b.un x);have Y:aB mem=aB (gX a (P2.fst a.dflt a.un b.un x)++gX b (P2.snd b.dflt a.un b.un x)):=h;rw[H]at Y;cases mem with
  |nil=>cases Y
  |cons y r=>
   have:=yb1 Y
   show(Dy a [y]&&Dy b r)=true
   rw[yc];refine⟨HQ (s:=a) (x:=P2.fst a.dflt a.un b.un x) K.1.2 ?_,HQ K.2 this.2⟩;rw[H];exact congrArg (λz=> [z]) this.1
 | .int _,m,x,J,h| .bool,m,x,J,h| .str,m,x,J,h| .nilS,m,x,J,h| .nilP,m,x,J,h| .undef,m,x,J,h| .sl _ _ _,m,x,J,h| .el _ _ _ _,m,x,J,h| .ptr _ _ _ _,m,x,J,h
 | .ptrI _ _ _,m,x,J,h| .ms _ _,m,x,J,h| .msw _ _,m,x,J,h| .fn _ _ _,m,x,J,h| .agg _,m,x,J,h| .tup _,m,x,J,h=>by cases J
end Go.Ab
