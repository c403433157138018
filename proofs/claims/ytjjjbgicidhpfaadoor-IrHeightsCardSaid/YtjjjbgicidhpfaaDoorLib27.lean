import Derived.Test.YtjjjbgicidhpfaaDoorLib26
set_option linter.unusedVariables false
set_option linter.unusedSectionVars false
set_option linter.unusedSimpArgs false
namespace Go.Ab
variable [cS]
theorem dV{args:List KV}{v:AV}(h:KV.downs args= [v]): ∃u,args= [u]/\u.down=v:=by
 match args,h with
 | [u],h=>exact⟨u,rfl,(yd1 h).1⟩
 | [],h=>cases h
 |_::_::_,h=>cases h
theorem O7{args:List KV}{v:AV}{r:List AV}(h:KV.downs args=v::r): ∃u us,args=u::us/\u.down=v/\KV.downs us=r:=by
 match args,h with
 |u::us,h=>exact⟨u,us,rfl,(yd1 h).1,(yd1 h).2⟩
 | [],h=>cases h
theorem o9: ∀{s:Sh} {args:List KV} {x:s.den},oS s (KV.downs args) x->mU s args=true
 | .int k,args,x,h=>by
  obtain⟨u,rfl,H⟩:=dV h;cases u<;>first|(cases H;done)|skip
  rename_i v;have H:AV.lit v= .lit (.int k x):=H;obtain rfl:=AV.lit.inj H;rfl
 | .bool,args,x,h=>by
  obtain⟨u,rfl,H⟩:=dV h;cases u<;>first|(cases H;done)|skip
  rename_i v;have H:AV.lit v= .lit (.bool x):=H;obtain rfl:=AV.lit.inj H;rfl
 | .str,args,x,h=>by
  obtain⟨u,rfl,H⟩:=dV h;cases u<;>first|(cases H;done)|skip
  rename_i v;have H:AV.lit v= .lit (.string x):=H;obtain rfl:=AV.lit.inj H;rfl
 | .nilS,args,x,h=>by
  obtain⟨u,rfl,H⟩:=dV h;cases u<;>first|(cases H;done)|skip
  rename_i v;obtain rfl:=AV.lit.inj H;rfl
 | .nilP,args,x,h=>by
  obtain⟨u,rfl,H⟩:=dV h;cases u<;>first|(cases H;done)|skip
  rename_i v;obtain rfl:=AV.lit.inj H;rfl
 | .undef,args,x,h=>by
  obtain⟨u,rfl,H⟩:=dV h;cases u<;>first|(cases H;done)|skip
  rename_i v;obtain rfl:=AV.lit.inj H;rfl
 | .sl β ag T,args,x,h=>by
  rcases h with ⟨β',_,h⟩|⟨h,_⟩
  ·obtain⟨u,rfl,H⟩:=dV h;have hs:=vU ag T x;cases u with
   |tsl _ _ _ _=>rfl
   |dead=>rw[<-(AV.imm.inj H).2]at hs;cases hs
   |gone=>rw[<-(AV.imm.inj H).2]at hs;cases hs
   |unkB=>rw[<-(AV.imm.inj H).2]at hs;cases hs
   |_=>cases H
  ·obtain⟨u,rfl,H⟩:=dV h;cases u<;>first|(cases H;done)|skip
   rename_i v;obtain rfl:=AV.lit.inj H;rfl
 | .el β ag T c,args,x,h=>by
  obtain⟨β',_,h⟩:=h;obtain⟨u,rfl,H⟩:=dV h;cases u<;>first|(cases H;done)|skip
  rename_i c';have:=(AV.el.inj H).2.2;subst this;exact dE.2 rfl
 | .ptr b g i c,args,x,h=>by
  obtain⟨u,rfl,H⟩:=dV h;cases u<;>first|(cases H;done)|skip
  obtain⟨rfl,rfl,rfl,rfl⟩:=AV.ptr.inj H
  show(iW _ _&&iW _ _&&iW _ _&&iW _ _)=true
  simp[dE]
 | .ptrI b g c,args,x,h=>by
  obtain⟨u,rfl,H⟩:=dV h;cases u<;>first|(cases H;done)|skip
  obtain⟨rfl,rfl,_,rfl⟩:=AV.ptr.inj H
  show(iW _ _&&iW _ _&&iW _ _)=true
  simp[dE]
 | .ms b g,args,x,h=>by
  obtain⟨u,rfl,H⟩:=dV h;cases u<;>first|(cases H;done)|skip
  obtain⟨rfl,rfl,_,_⟩:=AV.ms.inj H
  show(iW _ _&&iW _ _)=true
  simp[dE]
 | .msw b g,args,x,h=>by
  obtain⟨u,rfl,H⟩:=dV h;cases u<;>first|(cases H;done)|skip
  obtain⟨rfl,rfl⟩:=AV.msw.inj H
  show(iW _ _&&iW _ _)=true
  simp[dE]
 | .fn f U M,args,x,h=>by
  obtain⟨N,O,h,J,K⟩:=h;obtain⟨u,rfl,H⟩:=dV h;cases u<;>first|(cases H;done)|skip
  obtain⟨rfl,rfl,rfl⟩:=AV.fn.inj H
  show(iW f f&&mU U _&&mU M _)=true
  simp[dE,o9 J,o9 K]
 | .agg l,args,x,h=>by
  obtain⟨cs,h,J⟩:=h;obtain⟨u,rfl,H⟩:=dV h;cases u<;>first|(cases H;done)|skip
  obtain rfl:=AV.agg.inj H;exact o9 (s:=l) J
 | .tup l,args,x,h=>by
  obtain⟨cs,h,J⟩:=h;obtain⟨u,rfl,H⟩:=dV h;cases u<;>first|(cases H;done)|skip
  obtain rfl:=AV.tup.inj H;exact o9 (s:=l) J
 | .nil,args,x,h=>by
  cases args with
  |nil=>rfl
  |cons _ _=>cases h
 | .cons a b,args,x,h=>by
  obtain⟨v,r,h,J,K⟩:=h;obtain⟨u,us,rfl,rfl,rfl⟩:=O7 h
  show(mU a [u]&&mU b us)=true
  rw[yc];exact⟨o9 (s:=a) (args:= [u]) J,o9 K⟩
 | .bnone,args,x,h=>h.elim
 | .bts _ _ _ _ _,args,x,h=>h.elim
 | .bcells _ _ _ _,args,x,h=>h.elim
 | .bos _ _ _ _,args,x,h=>h.elim
def Sh.oneM:Sh->Bool
 | .bnone=>true
 | .bts _ _ _ _ _=>true
 | .bcells _ _ _ _=>true
 | .bos _ _ _ _=>true
 |_=>false
def Sh.okH:Sh->Bool
 | .nil=>true
 | .cons (.agg (.cons (.ptrI b g c) (.cons v .nil))) r=>iW b 0&&iW g 0&&v.one&&r.okH
 |_=>false
def Sh.okM:Sh->Bool
 | .nil=>true
 | .cons a b=>a.oneM&&a.okM&&b.okM
 | .bnone=>true
 | .bts _ _ _ _ _=>true
 | .bcells _ _ _ l=>l.okL
 | .bos _ _ _ l=>l.okL&&l.okH
 |_=>false
def QK(vs:List KV):Prop:= ∀v∈vs,∃i c w,v= .agg [.ptr 0 0 i c,w]
theorem QK.eq: ∀{vs:List KV},QK vs->m6 (kW vs)=vs
 | [],_=>rfl
 |v::vs,h=>by
  obtain⟨i,c,w,rfl⟩:=h v (yn ..);have H:=QK.eq (vs:=vs) λv J=>h v (yk _ J);show KV.agg _::m6 (kW vs)=_;rw[H]
theorem UP{v:Sh}(J:v.one=true)(d:(Sh.cons v .nil).den): ∃w,eD (.cons v .nil) d= [w]:=by
 obtain⟨w,H⟩:=MC J (P2.fst v.dflt v.un Sh.nil.un d);refine⟨w,?_⟩;show eD v (P2.fst v.dflt v.un Sh.nil.un d)++ []=_;rw[H];rfl
theorem TA{c:Nat}{v:Sh}(J:v.one=true)(d:(Sh.agg (.cons (.ptrI 0 0 c) (.cons v .nil))).den): ∃i w,eD (.agg (.cons (.ptrI 0 0 c) (.cons v .nil))) d= [.agg [.ptr 0 0 i c,w]]:=by
 obtain⟨w,H⟩:=UP J (P2.snd (Sh.cons v .nil).dflt (Sh.ptrI 0 0 c).un (Sh.cons v .nil).un d);refine⟨P2.fst (Sh.ptrI 0 0 c).dflt (Sh.ptrI 0 0 c).un (Sh.cons v .nil).un d,w,?_⟩;show [KV.agg ([KV.ptr 0 0 _ c]++eD (.cons v .nil) (P2.snd (Sh.cons v .nil).dflt (Sh.ptrI 0 0 c).un (Sh.cons v .nil).un d))]=_;rw[H];rfl
theorem K9: ∀{l:Sh},l.okH=true->∀p:l.den,QK (eD l p)
 | .nil,_,_=>λv J=>by cases J
 | .cons (.agg (.cons (.ptrI b g c) (.cons v .nil))) r,h,p=>by
  have K:(iW b 0&&iW g 0&&v.one&&r.okH)=true:=h;simp only[yc,dE]at K;obtain⟨⟨⟨rfl,rfl⟩,J⟩,hr⟩:=K;intro u H;have H:u∈eD (.agg (.cons (.ptrI 0 0 c) (.cons v .nil))) (P2.fst (Sh.agg (.cons (.ptrI 0 0 c) (.cons v .nil))).dflt (Sh.agg (.cons (.ptrI 0 0 c) (.cons v .nil))).un r.un p)++eD r (P2.snd r.dflt (Sh.agg (.cons (.ptrI 0 0 c) (.cons v .nil))).un r.un p):=H;obtain⟨i,w,e⟩:=TA (c:=c) J (P2.fst (Sh.agg (.cons (.ptrI 0 0 c) (.cons v .nil))).dflt (Sh.agg (.cons (.ptrI 0 0 c) (.cons v .nil))).un r.un p);rw[e]at H;rcases yr1.1 H with H|H
  ·exact⟨i,c,w,yi1.1 H⟩
  ·exact K9 hr _ u H
theorem Fo{l:Sh}(h:l.okH=true)(p:l.den):m6 (kW (eD l p))=eD l p:=(K9 h p).eq
noncomputable def Q9:List (Nat×Nat×AV)->List AV
 | []=> []
 |h::r=> .agg [.ptr 0 0 h.1 h.2.1,h.2.2]::Q9 r
theorem qW: ∀hs:dL,KV.downs (m6 hs)=Q9 (bI hs)
 | []=>rfl
 |h::r=>by
  show _::KV.downs (m6 r)=_;rw[qW r];rfl
theorem HH{s:Sh}(h:s.oneM=true)(d:s.den): ∃x,jC s d= [x]:=by
 cases s<;>first|(cases h;done)|exact⟨_,rfl⟩
theorem Qb{β ag:Bool}{T:Ty}{xs J:List (den T)}(h:(KRow.ts β ag T xs).down=(KRow.ts β ag T J).down):xs=J:=by
 cases H:bD ag T with
 |true=>
  obtain⟨rfl,k,rfl⟩:=aS.1 H;exact(bC.ints.inj h).2
 |false=>
  rw[KRow.down_sl H,KRow.down_sl H]at h;exact Hl (λx y=>Jw) (bC.pvs.inj h).2.2
theorem IE: ∀{s:Sh} {x y:s.den},s.okM=true->aD (jC s x)=aD (jC s y)->x=y
 | .nil,x,y,_,_=>rfl
 | .bnone,x,y,_,_=>rfl
 | .bts gen frz β ag T,x,y,_,h=>by
  have h:=yb (yd1 h).1;exact Qb (congrArg bV.row h)
 | .bcells gen frz e l,x,y,J,h=>by
  have h:=yb (yd1 h).1;have O:bC.cells e (KV.downs (eD l x))= .cells e (KV.downs (eD l y)):=congrArg bV.row h;have N:=(bC.cells.inj O).2;have r1:=oS.refl (s:=l) J x;have M:=oS.refl (s:=l) J y;rw[N]at r1;exact oS.unique (s:=l) r1 M
 | .bos gen frz T l,x,y,J,h=>by
  have H:(l.okL&&l.okH)=true:=J;rw[yc]at H;have h:=yb (yd1 h).1;have O:(KRow.os T (P2.fst (A:=List (Go.Ab.den T)) [] false l.un x) (kW (eD l (P2.snd l.dflt false l.un x)))).down=(KRow.os T (P2.fst (A:=List (Go.Ab.den T)) [] false l.un y) (kW (eD l (P2.snd l.dflt false l.un y)))).down:=congrArg bV.row h;obtain⟨_,N,W⟩:=bC.own.inj O;have Y:KV.downs (eD l (P2.snd l.dflt false l.un x))=KV.downs (eD l (P2.snd l.dflt false l.un y)):=by
   have K:=congrArg KV.downs (Fo H.2 (P2.snd l.dflt false l.un x));have U:=congrArg KV.downs (Fo H.2 (P2.snd l.dflt false l.un y));rw[qW]at K U;rw[<-K,<-U,W]
  have r1:=oS.refl (s:=l) H.1 (P2.snd l.dflt false l.un x);have M:=oS.refl (s:=l) H.1 (P2.snd l.dflt false l.un y);rw[Y]at r1;exact P2.ext (da:= []) (db:=l.dflt) (Hl (λx y=>Jw) N) (oS.unique (s:=l) r1 M)
 | .cons a b,x,y,J,h=>by
  have H:(a.oneM&&a.okM&&b.okM)=true:=J;simp only[yc]at H;have V:aD (jC a (P2.fst a.dflt a.un b.un x)++jC b (P2.snd b.dflt a.un b.un x))=aD (jC a (P2.fst a.dflt a.un b.un y)++jC b (P2.snd b.dflt a.un b.un y)):=h;obtain⟨u,hu⟩:=HH H.1.1 (P2.fst a.dflt a.un b.un x);obtain⟨v,Z⟩:=HH H.1.1 (P2.fst a.dflt a.un b.un y);have K:aD (jC a (P2.fst a.dflt a.un b.un x))=aD (jC a (P2.fst a.dflt a.un b.un y))/\aD (jC b (P2.snd b.dflt a.un b.un x))=aD (jC b (P2.snd b.dflt a.un b.un y)):=by
   rw[hu,Z]at V⊢
   have:=yd1 V;exact⟨congrArg (λz=> [z]) this.1,this.2⟩
  exact P2.ext (IE H.1.2 K.1) (IE H.2 K.2)
 | .int _,x,y,J,h| .bool,x,y,J,h| .str,x,y,J,h| .nilS,x,y,J,h| .nilP,x,y,J,h| .undef,x,y,J,h| .sl _ _ _,x,y,J,h| .el _ _ _ _,x,y,J,h| .ptr _ _ _ _,x,y,J,h
 | .ptrI _ _ _,x,y,J,h| .ms _ _,x,y,J,h| .msw _ _,x,y,J,h| .fn _ _ _,x,y,J,h| .agg _,x,y,J,h| .tup _,x,y,J,h=>by cases J
theorem AX{mem:aH}{v:Option bV}(h:aD mem= [v]): ∃u,mem= [u]/\u.map dW.down=v:=by
 match mem,h with
 | [u],h=>exact⟨u,rfl,(yd1 h).1⟩
 | [],h=>cases h
 |_::_::_,h=>cases h
theorem HJ: ∀{s:Sh} {mem:aH} {x:s.den},s.okM=true->aD mem=aD (jC s x)->Gy s mem=true
 | .nil,mem,x,_,h=>by
  cases mem with
  |nil=>rfl
  |cons _ _=>cases h
 | .bnone,mem,x,_,h=>by
  obtain⟨u,rfl,H⟩:=AX (v:=none) h;cases u with
  |none=>rfl
  |some _=>cases H
 | .bts gen frz β ag T,mem,x,_,h=>by
  obtain⟨u,rfl,H⟩:=AX h;cases u with
  |none=>cases H
  |some u=>
   have H:=yb H;obtain⟨g',M,row⟩:=u;have W:g'=gen:=congrArg bV.gen H;have V:M=frz:=congrArg bV.frz H;have N:row.down=(KRow.ts β ag T x).down:=congrArg bV.row H;subst W;subst V;cases row with
   |ts β' O U xs=>
    show(iW g' g'&&fJ M M)=true
    cases M<;>simp[dE,fJ]
   |cells e cs=>
    exfalso;have:=congrArg bC.isCells N;rw[gT,gT]at this;cases this
   |os U xs hs=>
    exfalso;have:=congrArg bC.isOwn N;rw[eC,eC]at this;cases this
 | .bcells gen frz e l,mem,x,J,h=>by
  obtain⟨u,rfl,H⟩:=AX h;cases u with
  |none=>cases H
  |some u=>
   have H:=yb H;obtain⟨g',M,row⟩:=u;have W:g'=gen:=congrArg bV.gen H;have V:M=frz:=congrArg bV.frz H;have N:row.down=(KRow.cells e (eD l x)).down:=congrArg bV.row H;subst W;subst V;cases row with
   |ts β' O U xs=>
    exfalso;have:=congrArg bC.isCells N;rw[gT,gT]at this;cases this
   |os U xs hs=>
    exfalso;have:=congrArg bC.isOwn N;rw[eC,eC]at this;cases this
   |cells Y cs=>
    obtain⟨h4,Z⟩:=bC.cells.inj N;subst h4;have r1:=oS.refl (s:=l) J x;rw[<-Z]at r1
    show(iW g' g'&&fJ M M&&iW Y Y&&mU l cs)=true
    have:=o9 (s:=l) r1;cases M<;>simp[dE,fJ,this]
 | .bos gen frz T l,mem,x,J,h=>by
  have K:(l.okL&&l.okH)=true:=J;rw[yc]at K;obtain⟨u,rfl,H⟩:=AX h;cases u with
  |none=>cases H
  |some u=>
   have H:=yb H;obtain⟨g',M,row⟩:=u;have W:g'=gen:=congrArg bV.gen H;have V:M=frz:=congrArg bV.frz H;have N:row.down=(KRow.os T (P2.fst (A:=List (Go.Ab.den T)) [] false l.un x) (kW (eD l (P2.snd l.dflt false l.un x)))).down:=congrArg bV.row H;subst W;subst V;cases row with
   |ts β' O U xs=>
    exfalso;have:=congrArg bC.isOwn N;rw[eC,eC]at this;cases this
   |cells Y cs=>
    exfalso;have:=congrArg bC.isOwn N;rw[eC,eC]at this;cases this
   |os U xs hs=>
    obtain⟨_,_,Z⟩:=bC.own.inj N;have r1:=oS.refl (s:=l) K.1 (P2.snd l.dflt false l.un x);have e1:=congrArg KV.downs (Fo K.2 (P2.snd l.dflt false l.un x));rw[qW,<-Z,<-qW]at e1;rw[<-e1]at r1
    show(iW g' g'&&fJ M M&&mU l (m6 hs))=true
    have:=o9 (s:=l) r1;cases M<;>simp[dE,fJ,this]
 | .cons a b,mem,x,J,h=>by
  have K:(a.oneM&&a.okM&&b.okM)=true:=J;simp only[yc]at K;obtain⟨u,H⟩:=HH K.1.1 (P2.fst a.dflt a.un b.un x);have h':aD mem=aD (jC a (P2.fst a.dflt a.un b.un x)++jC b (P2.snd b.dflt a.un b.un x)):=h;rw[H]at h';cases mem with
  |nil=>cases h'
  |cons y r=>
   have:=yd1 h'
   show(Gy a [y]&&Gy b r)=true
   rw[yc];refine⟨HJ (s:=a) (x:=P2.fst a.dflt a.un b.un x) K.1.2 ?_,HJ K.2 this.2⟩;rw[H];exact congrArg (λz=> [z]) this.1
 | .int _,m,x,J,h| .bool,m,x,J,h| .str,m,x,J,h| .nilS,m,x,J,h| .nilP,m,x,J,h| .undef,m,x,J,h| .sl _ _ _,m,x,J,h| .el _ _ _ _,m,x,J,h| .ptr _ _ _ _,m,x,J,h
 | .ptrI _ _ _,m,x,J,h| .ms _ _,m,x,J,h| .msw _ _,m,x,J,h| .fn _ _ _,m,x,J,h| .agg _,m,x,J,h| .tup _,m,x,J,h=>by cases J
end Go.Ab
