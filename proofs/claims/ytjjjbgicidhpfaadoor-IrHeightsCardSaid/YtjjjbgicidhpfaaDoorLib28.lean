import Derived.Test.YtjjjbgicidhpfaaDoorLib27
set_option linter.unusedVariables false
set_option linter.unusedSectionVars false
set_option linter.unusedSimpArgs false
namespace Go.Ab
variable [cS]
def fB(G:Gh)(w:World):List AV->List AV->Prop
 | [],[]=>True
 |a::as,b::bs=>(∀cv,VR G w a cv->VR G w b cv)/\fB G w as bs
 |_,_=>False
theorem fB.len{G:Gh}{w:World}: ∀{as bs:List AV},fB G w as bs->as.length=bs.length
 | [],[],_=>rfl
 |a::as,b::bs,h=>by simp[fB.len h.2]
 | [],_::_,h=>h.elim
 |_::_,[],h=>h.elim
theorem fB.get{G:Gh}{w:World}: ∀{as bs:List AV},fB G w as bs->∀{j:Nat} {y:AV},bs[j]?=some y->∃x,as[j]?=some x/\∀cv,VR G w x cv->VR G w y cv
 |a::as,b::bs,h,0,y,H=>⟨a,rfl,by obtain rfl:=yb H;exact h.1⟩
 |a::as,b::bs,h,j+1,y,H=>fB.get (as:=as) (bs:=bs) h.2 (j:=j) H
 | [],[],_,_,_,H=>by cases H
 | [],_::_,h,_,_,_=>h.elim
 |_::_,[],h,_,_,_=>h.elim
theorem fB.refl{G:Gh}{w:World}: ∀as:List AV,fB G w as as
 | []=>trivial
 |a::as=>⟨λ_ h=>h,fB.refl as⟩
theorem fB.one{G:Gh}{w:World}{a b:AV}(h: ∀cv,VR G w a cv->VR G w b cv):fB G w [a] [b]:=⟨h,trivial⟩
theorem T5{G:Gh}{w:World}(H: ∀B o,G.prot false B o->G.prot true B o){p:PV}(hs:p.isSl=true){cv:Value}(h:VR G w (.imm false p) cv):VR G w (.imm true p) cv:=by
 cases h with
 |imm _ _ _ h _=>exact .imm true p cv (h.mono H λ_ _ _=>rfl) hs
 |dead=>cases hs
theorem Vq{G:Gh}{w:World}(J: ∀B o,G.prot false B o->G.prot true B o){p:PV}{c:Nat}{cv:Value}(h:VR G w (.el false p c) cv):VR G w (.el true p c) cv:=by
 cases h with
 |el _ _ _ B o f h hr=>exact .el true p c B o f (λj y H=>⟨(h j y H).1,J _ _ (h j y H).2⟩) λj y H=>(hr j y H).mono J λ_ _ _=>rfl
theorem S4{G:Gh}{w:World}{β ag:Bool}{T:Ty}{cv:Value}(h:VR G w (.lit (.slice none 0 0)) cv):VR G w (.imm β (eJ ag T [])) cv:=by
 cases h with
 |lit _ _=>
  refine .imm β _ _ ?_ (vU ag T []);cases H:bD ag T with
  |true=>
   obtain⟨rfl,k,rfl⟩:=aS.1 H;exact .intsNil k _
  |false=>rw[cO H];exact .slNil _ _
theorem oS.all{G:Gh}{w:World}(M: ∀B o,G.prot false B o->G.prot true B o): ∀{s:Sh} {vs:List AV} {x:s.den},s.okL=true->oS s vs x->fB G w vs (KV.downs (eD s x))
 | .int k,vs,x,H,h=>by
  have h:vs= [.lit (.int k x)]:=h;subst h;exact fB.refl _
 | .bool,vs,x,H,h=>by
  have h:vs= [.lit (.bool x)]:=h;subst h;exact fB.refl _
 | .str,vs,x,H,h=>by
  have h:vs= [.lit (.string x)]:=h;subst h;exact fB.refl _
 | .nilS,vs,x,H,h=>by
  have h:vs= [.lit (.slice none 0 0)]:=h;subst h;exact fB.refl _
 | .nilP,vs,x,H,h=>by
  have h:vs= [.lit (.pointer none)]:=h;subst h;exact fB.refl _
 | .undef,vs,x,H,h=>by
  have h:vs= [.lit (.tuple #[])]:=h;subst h;exact fB.refl _
 | .sl β ag T,vs,x,H,h=>by
  rcases h with ⟨β',hb,rfl⟩|⟨rfl,Y⟩
  ·refine fB.one λcv K=>?_;show VR G w (.imm β (eJ ag T x)) cv;cases β' with
   |true=>rw[hb rfl];exact K
   |false=>
    cases β with
    |false=>exact K
    |true=>exact T5 M (vU ag T x) K
  ·refine fB.one λcv K=>?_;have Y:x=([]:List (den T)):=Y;subst Y;exact S4 K
 | .el β ag T c,vs,x,H,h=>by
  obtain⟨β',hb,rfl⟩:=h;refine fB.one λcv K=>?_;show VR G w (.el β (c9 ag T x) c) cv;cases β' with
  |true=>rw[hb rfl];exact K
  |false=>
   cases β with
   |false=>exact K
   |true=>exact Vq M K
 | .ptr b g i c,vs,x,H,h=>by
  have h:vs= [.ptr b g i c]:=h;subst h;exact fB.refl _
 | .ptrI b g c,vs,x,H,h=>by
  have h:vs= [.ptr b g x c]:=h;subst h;exact fB.refl _
 | .ms b g,vs,x,H,h=>by
  have h:vs= [.ms b g (Prod.fst x) (Prod.snd x)]:=h;subst h;exact fB.refl _
 | .msw b g,vs,x,H,h=>by
  have h:vs= [.msw b g]:=h;subst h;exact fB.refl _
 | .fn f fi ca,vs,x,H,h=>by
  have J:(fi.okL&&ca.okL)=true:=H;rw[yc]at J;obtain⟨fi',ca',rfl,O,Z⟩:=h;refine fB.one λcv K=>?_;have a1:=oS.all (w:=w) M J.1 O;have W:=oS.all (w:=w) M J.2 Z;cases K with
  |fn _ _ _ fv cv V e2 hf hc=>
   refine .fn _ _ _ fv cv (a1.len.symm.trans V) (W.len.symm.trans e2) (λj y U=>?_) (λj y U=>?_)
   ·obtain⟨z,N,h⟩:=a1.get U;exact h _ (hf j z N)
   ·obtain⟨z,N,h⟩:=W.get U;exact h _ (hc j z N)
 | .agg l,vs,x,H,h=>by
  obtain⟨cs,rfl,O⟩:=h;refine fB.one λcv K=>?_;have a1:=oS.all (w:=w) (s:=l) M H O;cases K with
  |agg _ cvs V hf=>
   refine .agg _ cvs (a1.len.symm.trans V) λj y U=>?_;obtain⟨z,N,h⟩:=a1.get U;exact h _ (hf j z N)
 | .tup l,vs,x,H,h=>by
  obtain⟨cs,rfl,O⟩:=h;refine fB.one λcv K=>?_;have a1:=oS.all (w:=w) (s:=l) M H O;cases K with
  |tup _ cvs V hf=>
   refine .tup _ cvs (a1.len.symm.trans V) λj y U=>?_;obtain⟨z,N,h⟩:=a1.get U;exact h _ (hf j z N)
 | .nil,vs,x,H,h=>by
  have h:vs= []:=h;subst h;trivial
 | .cons a b,vs,x,H,h=>by
  have J:(a.one&&a.okL&&b.okL)=true:=H;simp only[yc]at J;obtain⟨v,r,rfl,O,Z⟩:=h;obtain⟨u,hu⟩:=MC J.1.1 (P2.fst a.dflt a.un b.un x);have a1:=oS.all (w:=w) M J.1.2 O;have W:=oS.all (w:=w) M J.2 Z;rw[hu]at a1;show fB G w (v::r) (KV.downs (eD a (P2.fst a.dflt a.un b.un x)++eD b (P2.snd b.dflt a.un b.un x)));rw[hu];exact⟨a1.1,W⟩
 | .bnone,vs,x,H,h=>h.elim
 | .bts _ _ _ _ _,vs,x,H,h=>h.elim
 | .bcells _ _ _ _,vs,x,H,h=>h.elim
theorem fB.vrs{G:Gh}{w:World}{as bs:List AV}(h:fB G w as bs){vs:Array Value}(H:rZ G w as vs):rZ G w bs vs:=
 ⟨h.len.symm.trans H.1,λj y J=>by
  obtain⟨x,K,M⟩:=h.get J
  exact M _ (H.2 j x K)⟩
def S1(E:aG)(as:List AV)(m:aO)(a:E.a.den):Prop:=
 as.length=E.a.slots.length/\oS E.a.sh as (P2.fst E.a.sh.dflt E.a.sh.un E.a.msh.un a)/\m=aD (jC E.a.msh (P2.snd E.a.msh.dflt E.a.sh.un E.a.msh.un a))
noncomputable def D8(E:aG)(b:fG E.r):AV×aO:=(((sG E.r b).2.env 0).down,aD (sG E.r b).2.mem)
def In:List Nat->Bool
 | [0]=>true
 |_=>false
def Q7(E:aG):Bool:=E.a.sh.okL&&E.a.msh.okM&&eN E.a.slots&&E.r.all λs=>s.sh.okL&&In s.slots
theorem S1.unique{E:aG}(K:Q7 E=true){as:List AV}{m:aO}{a H:E.a.den}(h:S1 E as m a)(J:S1 E as m H):a=H:=by
 simp only[Q7,yc]at K;exact P2.ext (oS.unique h.2.1 J.2.1) (IE K.1.1.2 (h.2.2.symm.trans J.2.2))
open Classical in
noncomputable def PJ:List aG->List AV->aO->Option (AV×aO)
 | [],_,_=>none
 |E::r,as,m=>if h: ∃a,S1 E as m a then(E.sh (Classical.choose h)).map (D8 E)else PJ r as m
noncomputable def WF(tbl:FuncId->List aG):cC:=λg as m=>PJ (tbl g) as m
theorem Ix{env H:Nat->KV}: ∀{J:List Nat},(∀s∈J,env s=H s)->mA env J=mA H J
 | [],_=>rfl
 |s::J,h=>by
  show env s::mA env J=H s::mA H J;rw[h s (yn ..),Ix λt ht=>h t (yk _ ht)]
theorem La: ∀{H:List Nat} {vs:List KV},eN H=true->vs.length=H.length->mA (eK H vs) H=vs
 | [],[],_,_=>rfl
 | [],_::_,_,h=>by cases h
 |_::_,[],_,h=>by cases h
 |s::H,v::vs,hn,K=>by
  have J:(!(eY s H)&&eN H)=true:=hn;simp only[yc,yx]at J;have M:=La J.2 (Nat.succ.inj K)
  show(bif Nat.beq s s then v else eK H vs s)::mA (eK (s::H) (v::vs)) H=v::vs
  rw[yr3];congr 1;rw[<-M];refine Eq.trans (Ix λt ht=>?_) rfl
  show(bif Nat.beq t s then v else eK H (mA (eK H vs) H) t)=eK H vs t
  have:Nat.beq t s=false:=by
   cases N:Nat.beq t s with
   |true=>rw[<-nb.1 N,nG.2 ht]at J;cases J.1
   |false=>rfl
  rw[this,M];rfl
theorem S1.of_dec{E:aG}(M:Q7 E=true){args:List KV}{mem:aH}{a:E.a.den}(H:args.length=E.a.slots.length)(h:rL true E.a ⟨eK E.a.slots args,mem⟩=some a):
  S1 E (KV.downs args) (aD mem) a:=by
 simp only[Q7,yc]at M;unfold rL at h;split at h<;>try contradiction
 rename_i x J;split at h<;>try contradiction
 rename_i y N;have K:=yb h;rw[La M.1.2 H]at J;have O:=P2.fst_mk' K;have U:=P2.snd_mk' K;refine⟨by rw[aN];exact H,?_,?_⟩
 ·exact(congrArg (oS E.a.sh (KV.downs args)) O).mpr (rH J)
 ·exact(congrArg aD (Ed N)).trans (congrArg (λu=>aD (jC E.a.msh u)) U.symm)
theorem Oj{R:Type}{r:R}{g:FuncId}{args:List KV}{mem:aH}{k:KV->aH->Option R}: ∀{l:List aG},(l.all Q7)=true->VE (aZ R) g args mem k l=some r->
  ∃v m,PJ l (KV.downs args) (aD mem)=some (v.down,aD m)/\k v m=some r
 | [],_,h=>by cases h
 |E::l,M,h=>by
  rw[yn3,yc]at M
  have H:(bif mU E.a.sh args&&Gy E.a.msh mem then
   (match rL true E.a ⟨eK E.a.slots args, mem⟩ with
   |some a=>bif Nat.beq args.length E.a.slots.length then(E.sh a).bind λb=>Cc (aZ R) E.r b λ_ st=>k (st.env 0) st.mem else none
   |none=>none)
  else VE (aZ R) g args mem k l)=some r:=h
  cases hf:mU E.a.sh args&&Gy E.a.msh mem with
  |true=>
   rw[hf]at H;simp only[yh]at H;split at H<;>try contradiction
   rename_i a O;obtain⟨N,H⟩:=cJ.1 H;obtain⟨b,W,H⟩:=yp1.1 H;have U:=pQ H;have J:=S1.of_dec M.1 (nb.1 N) O;refine⟨_,_,?_,U⟩;have K: ∃a,S1 E (KV.downs args) (aD mem) a:=⟨a,J⟩
   unfold PJ;rw[dif_pos K,(Classical.choose_spec K).unique M.1 J,W];rfl
  |false=>
   rw[hf]at H;simp only[yg]at H;obtain⟨v,m,V,U⟩:=Oj M.2 H;refine⟨v,m,?_,U⟩;unfold PJ;rw[dif_neg]
   ·exact V
   ·rintro⟨a,O⟩
    have o:=M.1;simp only[Q7,yc]at o;rw[o9 O.2.1,HJ o.1.1.2 O.2.2]at hf;cases hf
theorem Re{H:FuncId->List aG}(J: ∀g,(H g).all Q7=true):I2 (WF H) H:=λh=>Oj (J _) h
def AF(P:Program)(f:FuncId)(E:aG):Prop:= ∀a b,E.sh a=some b->∀G w as m vargs,S1 E as m a->aJ G w m->(∀(j:Nat) (x:bV),m[j]?=some (some x)->x.gen=0)->rZ G w as vargs->
 (callFunc f vargs).run P w= .ok (.enter f vargs) w/\Calls P f vargs w λe w'=> ∃G' cv,e= .returned cv/\V3 G w m (D8 E b) G' w' cv
theorem OP{as:List AV}{m:aO}{r:AV×aO}: ∀{l:List aG},PJ l as m=some r->∃E∈l,∃a b,S1 E as m a/\E.sh a=some b/\r=D8 E b
 | [],h=>by cases h
 |E::l,h=>by
  unfold PJ at h;split at h
  ·rename_i H;obtain⟨b,J,hr⟩:=yf.1 h;exact⟨E,yn ..,_,b,Classical.choose_spec H,J,hr.symm⟩
  ·obtain⟨K,hE,h⟩:=OP h;exact⟨K,yk _ hE,h⟩
theorem JI{P:Program}{J:FuncId->List aG}(h: ∀g,∀E∈J g,AF P g E):mI P (WF J):=by
 intro g as m r hr G w H hM M N;obtain⟨E,hE,a,b,K,O,rfl⟩:=OP hr;exact h g E hE a b O G w as m H K hM M N
end Go.Ab
