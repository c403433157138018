import Derived.Test.YtjjjbgicidhpfaaDoorLib27
set_option linter.unusedVariables false
set_option linter.unusedSectionVars false
set_option linter.unusedSimpArgs false
namespace Go.Ab
variable [cF]
def eI(G:Gh)(w:World):List AV->List AV->Prop
 | [],[]=>True
 |a::as,b::bs=>(∀cv,VR G w a cv->VR G w b cv)/\eI G w as bs
 |_,_=>False
theorem eI.len{G:Gh}{w:World}: ∀{as bs:List AV},eI G w as bs->as.length=bs.length
 | [],[],_=>rfl
 |a::as,b::bs,h=>by simp[eI.len h.2]
 | [],_::_,h=>h.elim
 |_::_,[],h=>h.elim
theorem eI.get{G:Gh}{w:World}: ∀{as bs:List AV},eI G w as bs->∀{j:Nat} {y:AV},bs[j]?=some y->∃x,as[j]?=some x/\∀cv,VR G w x cv->VR G w y cv
 |a::as,b::bs,h,0,y,H=>⟨a,rfl,by obtain rfl:=ya H;exact h.1⟩
 |a::as,b::bs,h,j+1,y,H=>eI.get (as:=as) (bs:=bs) h.2 (j:=j) H
 | [],[],_,_,_,H=>by cases H
 | [],_::_,h,_,_,_=>h.elim
 |_::_,[],h,_,_,_=>h.elim
theorem eI.refl{G:Gh}{w:World}: ∀as:List AV,eI G w as as
 | []=>trivial
 |a::as=>⟨λ_ h=>h,eI.refl as⟩
theorem eI.one{G:Gh}{w:World}{a b:AV}(h: ∀cv,VR G w a cv->VR G w b cv):eI G w [a] [b]:=⟨h,trivial⟩
theorem Sn{G:Gh}{w:World}(H: ∀B o,G.prot false B o->G.prot true B o){p:PV}(hs:p.isSl=true){cv:Value}(h:VR G w (.imm false p) cv):VR G w (.imm true p) cv:=by
 cases h with
 |imm _ _ _ h _=>exact .imm true p cv (h.mono H λ_ _ _=>rfl) hs
 |dead=>cases hs
theorem SI{G:Gh}{w:World}(J: ∀B o,G.prot false B o->G.prot true B o){p:PV}{c:Nat}{cv:Value}(h:VR G w (.el false p c) cv):VR G w (.el true p c) cv:=by
 cases h with
 |el _ _ _ B o f h hr=>exact .el true p c B o f (λj y H=>⟨(h j y H).1,J _ _ (h j y H).2⟩) λj y H=>(hr j y H).mono J λ_ _ _=>rfl
theorem Q7{G:Gh}{w:World}{β ag:Bool}{T:Ty}{cv:Value}(h:VR G w (.lit (.slice none 0 0)) cv):VR G w (.imm β (dS ag T [])) cv:=by
 cases h with
 |lit _ _=>
  refine .imm β _ _ ?_ (s5 ag T []);cases H:a6 ag T with
  |true=>
   obtain⟨rfl,k,rfl⟩:=aO.1 H;exact .intsNil k _
  |false=>rw[cB H];exact .slNil _ _
theorem m8.all{G:Gh}{w:World}(M: ∀B o,G.prot false B o->G.prot true B o): ∀{s:Sh} {vs:List AV} {x:s.den},s.okL=true->m8 s vs x->eI G w vs (KV.downs (dN s x))
 | .int k,vs,x,H,h=>by
  have h:vs= [.lit (.int k x)]:=h;subst h;exact eI.refl _
 | .bool,vs,x,H,h=>by
  have h:vs= [.lit (.bool x)]:=h;subst h;exact eI.refl _
 | .str,vs,x,H,h=>by
  have h:vs= [.lit (.string x)]:=h;subst h;exact eI.refl _
 | .nilS,vs,x,H,h=>by
  have h:vs= [.lit (.slice none 0 0)]:=h;subst h;exact eI.refl _
 | .nilP,vs,x,H,h=>by
  have h:vs= [.lit (.pointer none)]:=h;subst h;exact eI.refl _
 | .undef,vs,x,H,h=>by
  have h:vs= [.lit (.tuple #[])]:=h;subst h;exact eI.refl _
 | .sl β ag T,vs,x,H,h=>by
  rcases h with ⟨β',Z,rfl⟩|⟨rfl,hx⟩
  ·refine eI.one λcv K=>?_;show VR G w (.imm β (dS ag T x)) cv;cases β' with
   |true=>rw[Z rfl];exact K
   |false=>
    cases β with
    |false=>exact K
    |true=>exact Sn M (s5 ag T x) K
  ·refine eI.one λcv K=>?_;have hx:x=([]:List (den T)):=hx;subst hx;exact Q7 K
 | .el β ag T c,vs,x,H,h=>by
  obtain⟨β',Z,rfl⟩:=h;refine eI.one λcv K=>?_;show VR G w (.el β (cR ag T x) c) cv;cases β' with
  |true=>rw[Z rfl];exact K
  |false=>
   cases β with
   |false=>exact K
   |true=>exact SI M K
 | .ptr b g i c,vs,x,H,h=>by
  have h:vs= [.ptr b g i c]:=h;subst h;exact eI.refl _
 | .ptrI b g c,vs,x,H,h=>by
  have h:vs= [.ptr b g x c]:=h;subst h;exact eI.refl _
 | .ms b g,vs,x,H,h=>by
  have h:vs= [.ms b g (Prod.fst x) (Prod.snd x)]:=h;subst h;exact eI.refl _
 | .msw b g,vs,x,H,h=>by
  have h:vs= [.msw b g]:=h;subst h;exact eI.refl _
 | .fn f fi ca,vs,x,H,h=>by
  have J:(fi.okL&&ca.okL)=true:=H;rw[yc]at J;obtain⟨fi',ca',rfl,U,Y⟩:=h;refine eI.one λcv K=>?_;have a1:=m8.all (w:=w) M J.1 U;have W:=m8.all (w:=w) M J.2 Y;cases K with
  |fn _ _ _ fv cv V e2 hf hc=>
   refine .fn _ _ _ fv cv (a1.len.symm.trans V) (W.len.symm.trans e2) (λj y O=>?_) (λj y O=>?_)
   ·obtain⟨z,N,h⟩:=a1.get O;exact h _ (hf j z N)
   ·obtain⟨z,N,h⟩:=W.get O;exact h _ (hc j z N)
 | .agg l,vs,x,H,h=>by
  obtain⟨cs,rfl,U⟩:=h;refine eI.one λcv K=>?_;have a1:=m8.all (w:=w) (s:=l) M H U;cases K with
  |agg _ cvs V hf=>
   refine .agg _ cvs (a1.len.symm.trans V) λj y O=>?_;obtain⟨z,N,h⟩:=a1.get O;exact h _ (hf j z N)
 | .tup l,vs,x,H,h=>by
  obtain⟨cs,rfl,U⟩:=h;refine eI.one λcv K=>?_;have a1:=m8.all (w:=w) (s:=l) M H U;cases K with
  |tup _ cvs V hf=>
   refine .tup _ cvs (a1.len.symm.trans V) λj y O=>?_;obtain⟨z,N,h⟩:=a1.get O;exact h _ (hf j z N)
 | .nil,vs,x,H,h=>by
  have h:vs= []:=h;subst h;trivial
 | .cons a b,vs,x,H,h=>by
  have J:(a.one&&a.okL&&b.okL)=true:=H;simp only[yc]at J;obtain⟨v,r,rfl,U,Y⟩:=h;obtain⟨u,hu⟩:=Jr J.1.1 (P2.fst a.dflt a.un b.un x);have a1:=m8.all (w:=w) M J.1.2 U;have W:=m8.all (w:=w) M J.2 Y;rw[hu]at a1;show eI G w (v::r) (KV.downs (dN a (P2.fst a.dflt a.un b.un x)++dN b (P2.snd b.dflt a.un b.un x)));rw[hu];exact⟨a1.1,W⟩
 | .bnone,vs,x,H,h=>h.elim
 | .bts _ _ _ _ _,vs,x,H,h=>h.elim
 | .bcells _ _ _ _,vs,x,H,h=>h.elim
theorem eI.vrs{G:Gh}{w:World}{as bs:List AV}(h:eI G w as bs){vs:Array Value}(H:pY G w as vs):pY G w bs vs:=
 ⟨h.len.symm.trans H.1,λj y J=>by
  obtain⟨x,K,M⟩:=h.get J
  exact M _ (H.2 j x K)⟩
def Q4(E:aE)(as:List AV)(m:aK)(a:E.a.den):Prop:=
 as.length=E.a.slots.length/\m8 E.a.sh as (P2.fst E.a.sh.dflt E.a.sh.un E.a.msh.un a)/\m=aB (gX E.a.msh (P2.snd E.a.msh.dflt E.a.sh.un E.a.msh.un a))
noncomputable def Cj(E:aE)(b:eN E.r):AV×aK:=(((qD E.r b).2.env 0).down,aB (qD E.r b).2.mem)
def HZ:List Nat->Bool
 | [0]=>true
 |_=>false
def Pf(E:aE):Bool:=E.a.sh.okL&&E.a.msh.okM&&dY E.a.slots&&E.r.all λs=>s.sh.okL&&HZ s.slots
theorem Q4.unique{E:aE}(J:Pf E=true){as:List AV}{m:aK}{a H:E.a.den}(h:Q4 E as m a)(K:Q4 E as m H):a=H:=by
 simp only[Pf,yc]at J;exact P2.ext (m8.unique h.2.1 K.2.1) (H1 J.1.1.2 (h.2.2.symm.trans K.2.2))
open Classical in
noncomputable def M4:List aE->List AV->aK->Option (AV×aK)
 | [],_,_=>none
 |E::r,as,m=>if h: ∃a,Q4 E as m a then(E.sh (Classical.choose h)).map (Cj E)else M4 r as m
noncomputable def UR(tbl:FuncId->List aE):bX:=λg as m=>M4 (tbl g) as m
theorem G7{env H:Nat->KV}: ∀{J:List Nat},(∀s∈J,env s=H s)->kQ env J=kQ H J
 | [],_=>rfl
 |s::J,h=>by
  show env s::kQ env J=H s::kQ H J;rw[h s (yn ..),G7 λt ht=>h t (yj _ ht)]
theorem IE: ∀{H:List Nat} {vs:List KV},dY H=true->vs.length=H.length->kQ (dW H vs) H=vs
 | [],[],_,_=>rfl
 | [],_::_,_,h=>by cases h
 |_::_,[],_,h=>by cases h
 |s::H,v::vs,hn,K=>by
  have J:(!(eC s H)&&dY H)=true:=hn;simp only[yc,yw]at J;have M:=IE J.2 (Nat.succ.inj K)
  show(bif Nat.beq s s then v else dW H vs s)::kQ (dW (s::H) (v::vs)) H=v::vs
  rw[yg3];congr 1;rw[<-M];refine Eq.trans (G7 λt ht=>?_) rfl
  show(bif Nat.beq t s then v else dW H (kQ (dW H vs) H) t)=dW H vs t
  have:Nat.beq t s=false:=by
   cases N:Nat.beq t s with
   |true=>rw[<-nb.1 N,lR.2 ht]at J;cases J.1
   |false=>rfl
  rw[this,M];rfl
theorem Q4.of_dec{E:aE}(J:Pf E=true){args:List KV}{mem:aF}{a:E.a.den}(H:args.length=E.a.slots.length)(h:o5 true E.a ⟨dW E.a.slots args,mem⟩=some a):
  Q4 E (KV.downs args) (aB mem) a:=by
 simp only[Pf,yc]at J;unfold o5 at h;split at h<;>try contradiction
 rename_i x K;split at h<;>try contradiction
 rename_i y N;have M:=ya h;rw[IE J.1.2 H]at K;have U:=P2.fst_mk' M;have O:=P2.snd_mk' M;refine⟨by rw[aJ];exact H,?_,?_⟩
 ·exact(congrArg (m8 E.a.sh (KV.downs args)) U).mpr (pP K)
 ·exact(congrArg aB (BJ N)).trans (congrArg (λu=>aB (gX E.a.msh u)) O.symm)
theorem LM{R:Type}{r:R}{g:FuncId}{args:List KV}{mem:aF}{k:KV->aF->Option R}: ∀{l:List aE},(l.all Pf)=true->Tu (aS R) g args mem k l=some r->
  ∃v m,M4 l (KV.downs args) (aB mem)=some (v.down,aB m)/\k v m=some r
 | [],_,h=>by cases h
 |E::l,J,h=>by
  rw[ym3,yc]at J
  have H:(bif kZ E.a.sh args&&Dy E.a.msh mem then
   (match o5 true E.a ⟨dW E.a.slots args, mem⟩ with
   |some a=>bif Nat.beq args.length E.a.slots.length then(E.sh a).bind λb=>Dp (aS R) E.r b λ_ st=>k (st.env 0) st.mem else none
   |none=>none)
  else Tu (aS R) g args mem k l)=some r:=h
  cases hf:kZ E.a.sh args&&Dy E.a.msh mem with
  |true=>
   rw[hf]at H;simp only[yg]at H;split at H<;>try contradiction
   rename_i a O;obtain⟨K,H⟩:=bZ.1 H;obtain⟨b,V,H⟩:=yy1.1 H;have U:=nX H;have N:=Q4.of_dec J.1 (nb.1 K) O;refine⟨_,_,?_,U⟩;have M: ∃a,Q4 E (KV.downs args) (aB mem) a:=⟨a,N⟩
   unfold M4;rw[dif_pos M,(Classical.choose_spec M).unique J.1 N,V];rfl
  |false=>
   rw[hf]at H;simp only[yh]at H;obtain⟨v,m,W,U⟩:=LM J.2 H;refine⟨v,m,?_,U⟩;unfold M4;rw[dif_neg]
   ·exact W
   ·rintro⟨a,O⟩
    have o:=J.1;simp only[Pf,yc]at o;rw[nJ O.2.1,HQ o.1.1.2 O.2.2]at hf;cases hf
theorem OK{H:FuncId->List aE}(J: ∀g,(H g).all Pf=true):Gs (UR H) H:=λh=>LM (J _) h
def y3(P:Program)(f:FuncId)(E:aE):Prop:= ∀a b,E.sh a=some b->∀G w as m vargs,Q4 E as m a->aH G w m->(∀(j:Nat) (x:bK),m[j]?=some (some x)->x.gen=0)->pY G w as vargs->
 (callFunc f vargs).run P w= .ok (.enter f vargs) w/\Calls P f vargs w λe w'=> ∃G' cv,e= .returned cv/\TW G w m (Cj E b) G' w' cv
theorem Mq{as:List AV}{m:aK}{r:AV×aK}: ∀{l:List aE},M4 l as m=some r->∃E∈l,∃a b,Q4 E as m a/\E.sh a=some b/\r=Cj E b
 | [],h=>by cases h
 |E::l,h=>by
  unfold M4 at h;split at h
  ·rename_i H;obtain⟨b,K,hr⟩:=ye.1 h;exact⟨E,yn ..,_,b,Classical.choose_spec H,K,hr.symm⟩
  ·obtain⟨J,hE,h⟩:=Mq h;exact⟨J,yj _ hE,h⟩
theorem F8{P:Program}{J:FuncId->List aE}(h: ∀g,∀E∈J g,y3 P g E):kW P (UR J):=by
 intro g as m r hr G w H hM N O;obtain⟨E,hE,a,b,K,M,rfl⟩:=Mq hr;exact h g E hE a b M G w as m H K hM N O
end Go.Ab
