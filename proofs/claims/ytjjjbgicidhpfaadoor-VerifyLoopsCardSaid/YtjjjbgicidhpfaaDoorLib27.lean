import Derived.Test.YtjjjbgicidhpfaaDoorLib26
set_option linter.unusedVariables false
set_option linter.unusedSectionVars false
set_option linter.unusedSimpArgs false
namespace Go.Ab
variable [b3]
def dQ(G:Gh)(w:World):List AV->List AV->Prop
 | [],[]=>True
 |a::as,b::bs=>(∀cv,VR G w a cv->VR G w b cv)/\dQ G w as bs
 |_,_=>False
theorem dQ.len{G:Gh}{w:World}: ∀{as bs:List AV},dQ G w as bs->as.length=bs.length
 | [],[],_=>rfl
 |a::as,b::bs,h=>by simp[dQ.len h.2]
 | [],_::_,h=>h.elim
 |_::_,[],h=>h.elim
theorem dQ.get{G:Gh}{w:World}: ∀{as bs:List AV},dQ G w as bs->∀{j:Nat} {y:AV},bs[j]?=some y->∃x,as[j]?=some x/\∀cv,VR G w x cv->VR G w y cv
 |a::as,b::bs,h,0,y,H=>⟨a,rfl,by obtain rfl:=ya H;exact h.1⟩
 |a::as,b::bs,h,j+1,y,H=>dQ.get (as:=as) (bs:=bs) h.2 (j:=j) H
 | [],[],_,_,_,H=>by cases H
 | [],_::_,h,_,_,_=>h.elim
 |_::_,[],h,_,_,_=>h.elim
theorem dQ.refl{G:Gh}{w:World}: ∀as:List AV,dQ G w as as
 | []=>trivial
 |a::as=>⟨λ_ h=>h,dQ.refl as⟩
theorem dQ.one{G:Gh}{w:World}{a b:AV}(h: ∀cv,VR G w a cv->VR G w b cv):dQ G w [a] [b]:=⟨h,trivial⟩
theorem NS{G:Gh}{w:World}(H: ∀B o,G.prot false B o->G.prot true B o){p:PV}(hs:p.isSl=true){cv:Value}(h:VR G w (.imm false p) cv):VR G w (.imm true p) cv:=by
 cases h with
 |imm _ _ _ h _=>exact .imm true p cv (h.mono H λ_ _ _=>rfl) hs
 |dead=>cases hs
theorem NZ{G:Gh}{w:World}(I: ∀B o,G.prot false B o->G.prot true B o){p:PV}{c:Nat}{cv:Value}(h:VR G w (.el false p c) cv):VR G w (.el true p c) cv:=by
 cases h with
 |el _ _ _ B o f h hr=>exact .el true p c B o f (λj y H=>⟨(h j y H).1,I _ _ (h j y H).2⟩) λj y H=>(hr j y H).mono I λ_ _ _=>rfl
theorem Nr{G:Gh}{w:World}{β ag:Bool}{T:Ty}{cv:Value}(h:VR G w (.lit (.slice none 0 0)) cv):VR G w (.imm β (c8 ag T [])) cv:=by
 cases h with
 |lit _ _=>
  refine .imm β _ _ ?_ (pT ag T []);cases H:aY ag T with
  |true=>
   obtain⟨rfl,k,rfl⟩:=aN.1 H;exact .intsNil k _
  |false=>rw[bU H];exact .slNil _ _
theorem kO.all{G:Gh}{w:World}(K: ∀B o,G.prot false B o->G.prot true B o): ∀{s:Sh} {vs:List AV} {x:s.den},s.okL=true->kO s vs x->dQ G w vs (KV.downs (c6 s x))
 | .int k,vs,x,H,h=>by
  have h:vs= [.lit (.int k x)]:=h;subst h;exact dQ.refl _
 | .bool,vs,x,H,h=>by
  have h:vs= [.lit (.bool x)]:=h;subst h;exact dQ.refl _
 | .str,vs,x,H,h=>by
  have h:vs= [.lit (.string x)]:=h;subst h;exact dQ.refl _
 | .nilS,vs,x,H,h=>by
  have h:vs= [.lit (.slice none 0 0)]:=h;subst h;exact dQ.refl _
 | .nilP,vs,x,H,h=>by
  have h:vs= [.lit (.pointer none)]:=h;subst h;exact dQ.refl _
 | .undef,vs,x,H,h=>by
  have h:vs= [.lit (.tuple #[])]:=h;subst h;exact dQ.refl _
 | .sl β ag T,vs,x,H,h=>by
  rcases h with ⟨β',Y,rfl⟩|⟨rfl,hx⟩
  ·refine dQ.one λcv J=>?_;show VR G w (.imm β (c8 ag T x)) cv;cases β' with
   |true=>rw[Y rfl];exact J
   |false=>
    cases β with
    |false=>exact J
    |true=>exact NS K (pT ag T x) J
  ·refine dQ.one λcv J=>?_;have hx:x=([]:List (den T)):=hx;subst hx;exact Nr J
 | .el β ag T c,vs,x,H,h=>by
  obtain⟨β',Y,rfl⟩:=h;refine dQ.one λcv J=>?_;show VR G w (.el β (cF ag T x) c) cv;cases β' with
  |true=>rw[Y rfl];exact J
  |false=>
   cases β with
   |false=>exact J
   |true=>exact NZ K J
 | .ptr b g i c,vs,x,H,h=>by
  have h:vs= [.ptr b g i c]:=h;subst h;exact dQ.refl _
 | .ptrI b g c,vs,x,H,h=>by
  have h:vs= [.ptr b g x c]:=h;subst h;exact dQ.refl _
 | .ms b g,vs,x,H,h=>by
  have h:vs= [.ms b g (Prod.fst x) (Prod.snd x)]:=h;subst h;exact dQ.refl _
 | .msw b g,vs,x,H,h=>by
  have h:vs= [.msw b g]:=h;subst h;exact dQ.refl _
 | .fn f fi ca,vs,x,H,h=>by
  have I:(fi.okL&&ca.okL)=true:=H;rw[yb]at I;obtain⟨fi',ca',rfl,M,Z⟩:=h;refine dQ.one λcv J=>?_;have a1:=kO.all (w:=w) K I.1 M;have W:=kO.all (w:=w) K I.2 Z;cases J with
  |fn _ _ _ fv cv U e2 V hc=>
   refine .fn _ _ _ fv cv (a1.len.symm.trans U) (W.len.symm.trans e2) (λj y O=>?_) (λj y O=>?_)
   ·obtain⟨z,N,h⟩:=a1.get O;exact h _ (V j z N)
   ·obtain⟨z,N,h⟩:=W.get O;exact h _ (hc j z N)
 | .agg l,vs,x,H,h=>by
  obtain⟨cs,rfl,M⟩:=h;refine dQ.one λcv J=>?_;have a1:=kO.all (w:=w) (s:=l) K H M;cases J with
  |agg _ cvs U V=>
   refine .agg _ cvs (a1.len.symm.trans U) λj y O=>?_;obtain⟨z,N,h⟩:=a1.get O;exact h _ (V j z N)
 | .tup l,vs,x,H,h=>by
  obtain⟨cs,rfl,M⟩:=h;refine dQ.one λcv J=>?_;have a1:=kO.all (w:=w) (s:=l) K H M;cases J with
  |tup _ cvs U V=>
   refine .tup _ cvs (a1.len.symm.trans U) λj y O=>?_;obtain⟨z,N,h⟩:=a1.get O;exact h _ (V j z N)
 | .nil,vs,x,H,h=>by
  have h:vs= []:=h;subst h;trivial
 | .cons a b,vs,x,H,h=>by
  have I:(a.one&&a.okL&&b.okL)=true:=H;simp only[yb]at I;obtain⟨v,r,rfl,M,Z⟩:=h;obtain⟨u,hu⟩:=Hb I.1.1 (P2.fst a.dflt a.un b.un x);have a1:=kO.all (w:=w) K I.1.2 M;have W:=kO.all (w:=w) K I.2 Z;rw[hu]at a1;show dQ G w (v::r) (KV.downs (c6 a (P2.fst a.dflt a.un b.un x)++c6 b (P2.snd b.dflt a.un b.un x)));rw[hu];exact⟨a1.1,W⟩
 | .bnone,vs,x,H,h=>h.elim
 | .bts _ _ _ _ _,vs,x,H,h=>h.elim
 | .bcells _ _ _ _,vs,x,H,h=>h.elim
theorem dQ.vrs{G:Gh}{w:World}{as bs:List AV}(h:dQ G w as bs){vs:Array Value}(H:nH G w as vs):nH G w bs vs:=
 ⟨h.len.symm.trans H.1,λj y I=>by
  obtain⟨x,K,J⟩:=h.get I;exact J _ (H.2 j x K)⟩
def ML(E:aD)(as:List AV)(m:aK)(a:E.a.den):Prop:=
 as.length=E.a.slots.length/\kO E.a.sh as (P2.fst E.a.sh.dflt E.a.sh.un E.a.msh.un a)/\m=aB (fM E.a.msh (P2.snd E.a.msh.dflt E.a.sh.un E.a.msh.un a))
noncomputable def zZ(E:aD)(b:dV E.r):AV×aK:=(((nP E.r b).2.env 0).down,aB (nP E.r b).2.mem)
def Db:List Nat->Bool
 | [0]=>true
 |_=>false
def Lh(E:aD):Bool:=E.a.sh.okL&&E.a.msh.okM&&dB E.a.slots&&E.r.all λs=>s.sh.okL&&Db s.slots
theorem ML.unique{E:aD}(J:Lh E=true){as:List AV}{m:aK}{a I:E.a.den}(h:ML E as m a)(H:ML E as m I):a=I:=by
 simp only[Lh,yb]at J;exact P2.ext (kO.unique h.2.1 H.2.1) (CM J.1.1.2 (h.2.2.symm.trans H.2.2))
open Classical in
noncomputable def Ko:List aD->List AV->aK->Option (AV×aK)
 | [],_,_=>none
 |E::r,as,m=>if h: ∃a,ML E as m a then(E.sh (Classical.choose h)).map (zZ E)else Ko r as m
noncomputable def Pi(tbl:FuncId->List aD):bM:=λg as m=>Ko (tbl g) as m
theorem Ez{env H:Nat->KV}: ∀{I:List Nat},(∀s∈I,env s=H s)->iR env I=iR H I
 | [],_=>rfl
 |s::I,h=>by
  show env s::iR env I=H s::iR H I;rw[h s (ym ..),Ez λt ht=>h t (yg _ ht)]
theorem Gb: ∀{H:List Nat} {vs:List KV},dB H=true->vs.length=H.length->iR (dD H vs) H=vs
 | [],[],_,_=>rfl
 | [],_::_,_,h=>by cases h
 |_::_,[],_,h=>by cases h
 |s::H,v::vs,hn,J=>by
  have I:(!(dL s H)&&dB H)=true:=hn;simp only[yb,yq]at I;have K:=Gb I.2 (Nat.succ.inj J)
  show(bif Nat.beq s s then v else dD H vs s)::iR (dD (s::H) (v::vs)) H=v::vs
  rw[yf3];congr 1;rw[<-K];refine Eq.trans (Ez λt ht=>?_) rfl
  show(bif Nat.beq t s then v else dD H (iR (dD H vs) H) t)=dD H vs t
  have:Nat.beq t s=false:=by
   cases M:Nat.beq t s with
   |true=>rw[<-nb.1 M,jO.2 ht]at I;cases I.1
   |false=>rfl
  rw[this,K];rfl
theorem ML.of_dec{E:aD}(K:Lh E=true){args:List KV}{mem:aE}{a:E.a.den}(H:args.length=E.a.slots.length)(h:mT true E.a ⟨dD E.a.slots args,mem⟩=some a):
  ML E (KV.downs args) (aB mem) a:=by
 simp only[Lh,yb]at K;unfold mT at h;split at h<;>try contradiction
 rename_i x J;split at h<;>try contradiction
 rename_i y M;have I:=ya h;rw[Gb K.1.2 H]at J;have N:=P2.fst_mk' I;have O:=P2.snd_mk' I;refine⟨by rw[aJ];exact H,?_,?_⟩
 ·exact(congrArg (kO E.a.sh (KV.downs args)) N).mpr (mY J)
 ·exact(congrArg aB (z4 M)).trans (congrArg (λu=>aB (fM E.a.msh u)) O.symm)
theorem HX{R:Type}{r:R}{g:FuncId}{args:List KV}{mem:aE}{k:KV->aE->Option R}: ∀{l:List aD},(l.all Lh)=true->OA (aQ R) g args mem k l=some r->
  ∃v m,Ko l (KV.downs args) (aB mem)=some (v.down,aB m)/\k v m=some r
 | [],_,h=>by cases h
 |E::l,M,h=>by
  rw[ye3,yb]at M;have H:(bif i5 E.a.sh args&&Bz E.a.msh mem then
   (match mT true E.a ⟨dD E.a.slots args, mem⟩ with
   |some a=>bif Nat.beq args.length E.a.slots.length then(E.sh a).bind λb=>D3 (aQ R) E.r b λ_ st=>k (st.env 0) st.mem else none
   |none=>none)
  else OA (aQ R) g args mem k l)=some r:=h
  cases O:i5 E.a.sh args&&Bz E.a.msh mem with
  |true=>
   rw[O]at H;simp only[yl]at H;split at H<;>try contradiction
   rename_i a N;obtain⟨K,H⟩:=bP.1 H;obtain⟨b,W,H⟩:=yp1.1 H;have U:=lL H;have I:=ML.of_dec M.1 (nb.1 K) N;refine⟨_,_,?_,U⟩;have J: ∃a,ML E (KV.downs args) (aB mem) a:=⟨a,I⟩
   unfold Ko;rw[dif_pos J,(Classical.choose_spec J).unique M.1 I,W];rfl
  |false=>
   rw[O]at H;simp only[yj]at H;obtain⟨v,m,V,U⟩:=HX M.2 H;refine⟨v,m,?_,U⟩;unfold Ko;rw[dif_neg]
   ·exact V
   ·rintro⟨a,N⟩
    have o:=M.1;simp only[Lh,yb]at o;rw[lC N.2.1,Fg o.1.1.2 N.2.2]at O;cases O
theorem Ls{H:FuncId->List aD}(I: ∀g,(H g).all Lh=true):C1 (Pi H) H:=λh=>HX (I _) h
def vI(P:Program)(f:FuncId)(E:aD):Prop:= ∀a b,E.sh a=some b->∀G w as m vargs,ML E as m a->aI G w m->(∀(j:Nat) (x:bG),m[j]?=some (some x)->x.gen=0)->nH G w as vargs->
 (callFunc f vargs).run P w= .ok (.enter f vargs) w/\Calls P f vargs w λe w'=> ∃G' cv,e= .returned cv/\OE G w m (zZ E b) G' w' cv
theorem Jz{as:List AV}{m:aK}{r:AV×aK}: ∀{l:List aD},Ko l as m=some r->∃E∈l,∃a b,ML E as m a/\E.sh a=some b/\r=zZ E b
 | [],h=>by cases h
 |E::l,h=>by
  unfold Ko at h;split at h
  ·rename_i H;obtain⟨b,I,hr⟩:=yc.1 h;exact⟨E,ym ..,_,b,Classical.choose_spec H,I,hr.symm⟩
  ·obtain⟨J,hE,h⟩:=Jz h;exact⟨J,yg _ hE,h⟩
theorem Di{P:Program}{I:FuncId->List aD}(h: ∀g,∀E∈I g,vI P g E):iU P (Pi I):=by
 intro g as m r hr G w H hM M N;obtain⟨E,hE,a,b,J,K,rfl⟩:=Jz hr;exact h g E hE a b K G w as m H J hM M N
end Go.Ab
