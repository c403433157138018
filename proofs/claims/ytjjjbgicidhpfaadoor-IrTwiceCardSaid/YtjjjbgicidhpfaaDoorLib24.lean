import Derived.Test.YtjjjbgicidhpfaaDoorLib23
import Derived.Test.YtjjjbgicidhpfaaDoorLib5
set_option linter.unusedVariables false
set_option linter.unusedSectionVars false
set_option linter.unusedSimpArgs false
namespace Go.Ab
variable [cF]
theorem P2.ext{A B:Type}{da:A}{db:B}: ∀{ua ub:Bool} {p q:P2 ua ub A B},P2.fst da ua ub p=P2.fst da ua ub q->P2.snd db ua ub p=P2.snd db ua ub q->p=q
 |true,true,p,q,J,H=>H
 |true,false,p,q,J,H=>H
 |false,true,p,q,J,H=>J
 |false,false,p,q,J,H=>Prod.ext J H
theorem P2.fst_mk{A B:Type}{da:A}: ∀{ua ub:Bool} (a:A) (b:B),ua=true\/P2.fst da ua ub (P2.mk ua ub a b)=a
 |true,_,_,_=> .inl rfl
 |false,true,_,_=> .inr rfl
 |false,false,_,_=> .inr rfl
theorem P2.snd_mk{A B:Type}{db:B}: ∀{ua ub:Bool} (a:A) (b:B),ub=true\/P2.snd db ua ub (P2.mk ua ub a b)=b
 |true,true,_,_=> .inl rfl
 |true,false,_,_=> .inr rfl
 |false,true,_,_=> .inl rfl
 |false,false,_,_=> .inr rfl
theorem p8: ∀{s:Sh},s.un=true->∀x y:s.den,x=y
 | .nilS,_,x,y=>rfl
 | .nilP,_,x,y=>rfl
 | .undef,_,x,y=>rfl
 | .ptr _ _ _ _,_,x,y=>rfl
 | .msw _ _,_,x,y=>rfl
 | .nil,_,x,y=>rfl
 | .bnone,_,x,y=>rfl
 | .fn f J K,h,x,y=>by
  have H:Id J.un K.un=true:=h;rw[pA,yc]at H;exact P2.ext (da:=J.dflt) (db:=K.dflt) (p8 H.1 _ _) (p8 H.2 _ _)
 | .cons a b,h,x,y=>by
  have H:Id a.un b.un=true:=h;rw[pA,yc]at H;exact P2.ext (da:=a.dflt) (db:=b.dflt) (p8 H.1 _ _) (p8 H.2 _ _)
 | .agg l,h,x,y=>p8 (s:=l) h x y
 | .tup l,h,x,y=>p8 (s:=l) h x y
 | .bcells _ _ _ l,h,x,y=>p8 (s:=l) h x y
 | .int _,h,_,_=>by cases h
 | .bool,h,_,_=>by cases h
 | .str,h,_,_=>by cases h
 | .sl _ _ _,h,_,_=>by cases h
 | .el _ _ _ _,h,_,_=>by cases h
 | .ptrI _ _ _,h,_,_=>by cases h
 | .ms _ _,h,_,_=>by cases h
 | .bts _ _ _ _ _,h,_,_=>by cases h
 | .bos _ _ _ _,h,_,_=>by cases h
theorem fst_mk{a b:Sh}(x:a.den)(y:b.den):P2.fst a.dflt a.un b.un (P2.mk a.un b.un x y)=x:=by
 rcases P2.fst_mk (da:=a.dflt) (ua:=a.un) (ub:=b.un) x y with h|h
 ·exact p8 h _ _
 ·exact h
theorem snd_mk{a b:Sh}(x:a.den)(y:b.den):P2.snd b.dflt a.un b.un (P2.mk a.un b.un x y)=y:=by
 rcases P2.snd_mk (db:=b.dflt) (ua:=a.un) (ub:=b.un) x y with h|h
 ·exact p8 h _ _
 ·exact h
theorem FP{α β:Type}{f:α->β}(hf: ∀x y,f x=f y->x=y): ∀{xs H:List α},xs.map f=H.map f->xs=H
 | [],[],_=>rfl
 |x::xs,y::H,h=>by
  simp only[yg2,List.cons.injEq]at h;rw[hf _ _ h.1,FP hf h.2]
 | [],_::_,h=>by cases h
 |_::_,[],h=>by cases h
theorem I7{ag:Bool}{T:Ty}(H: ∀x y:den T,aQ T x=aQ T y->x=y)(x y:den T)(h:cR ag T x=cR ag T y):x=y:=by
 have:=congrArg PV.cells h;rw[cG,cG]at this;exact H x y this
theorem IP{ag:Bool}{T:Ty}(K: ∀x y:den T,aQ T x=aQ T y->x=y){xs J:List (den T)}(h:dS ag T xs=dS ag T J):xs=J:=by
 cases H:a6 ag T with
 |true=>
  obtain⟨rfl,k,rfl⟩:=aO.1 H;exact(PV.ints.inj h).2
 |false=>
  rw[cB H,cB H]at h;exact FP (I7 K) (PV.sl.inj h).2
theorem mI: ∀{T:Ty} (x y:den T),aQ T x=aQ T y->x=y
 | .int k,x,y,h=>by
  simp only[aQ,List.cons.injEq,PV.lit.injEq,and_true]at h;exact(Value.int.inj h).2
 | .bool,x,y,h=>by
  simp only[aQ,List.cons.injEq,PV.lit.injEq,and_true]at h;exact Value.bool.inj h
 | .str,x,y,h=>by
  simp only[aQ,List.cons.injEq,PV.lit.injEq,and_true]at h;exact Value.string.inj h
 | .sl ag T,x,y,h=>by
  simp only[aQ,List.cons.injEq,and_true]at h;exact IP (λx y=>mI x y) h
 | .cons a b,x,y,h=>by
  simp only[aQ]at h;have H:(aQ a (Prod.fst x)).length=(aQ a (Prod.fst y)).length:=by rw[bV,bV]
  obtain⟨J,K⟩:=List.append_inj h H;exact Prod.ext (mI _ _ J) (mI _ _ K)
theorem Hb{ag:Bool}{T:Ty}{x y:den T}(h:cR ag T x=cR ag T y):x=y:=I7 mI x y h
theorem Sl{ag:Bool}{T:Ty}{xs H:List (den T)}(h:dS ag T xs=dS ag T H):xs=H:=IP mI h
def m8:(s:Sh)->List AV->s.den->Prop
 | .int k,vs,x=>vs= [.lit (.int k x)]
 | .bool,vs,x=>vs= [.lit (.bool x)]
 | .str,vs,x=>vs= [.lit (.string x)]
 | .nilS,vs,_=>vs= [.lit (.slice none 0 0)]
 | .nilP,vs,_=>vs= [.lit (.pointer none)]
 | .undef,vs,_=>vs= [.lit (.tuple #[])]
 | .sl β ag T,vs,xs=>(∃β',(β'=true->β=true)/\vs= [.imm β' (dS ag T xs)])\/(vs= [.lit (.slice none 0 0)]/\xs=([]:List _))
 | .el β ag T c,vs,x=> ∃β',(β'=true->β=true)/\vs= [.el β' (cR ag T x) c]
 | .ptr b g i c,vs,_=>vs= [.ptr b g i c]
 | .ptrI b g c,vs,i=>vs= [.ptr b g i c]
 | .ms b g,vs,p=>vs= [.ms b g (Prod.fst p) (Prod.snd p)]
 | .msw b g,vs,_=>vs= [.msw b g]
 | .fn f fi ca,vs,p=> ∃fi' ca',vs= [.fn (.func f) fi' ca']/\m8 fi fi' (P2.fst fi.dflt _ _ p)/\m8 ca ca' (P2.snd ca.dflt _ _ p)
 | .agg l,vs,p=> ∃cs,vs= [.agg cs]/\m8 l cs p
 | .tup l,vs,p=> ∃cs,vs= [.tup cs]/\m8 l cs p
 | .nil,vs,_=>vs= []
 | .cons a b,vs,p=> ∃v r,vs=v::r/\m8 a [v] (P2.fst a.dflt _ _ p)/\m8 b r (P2.snd b.dflt _ _ p)
 | .bnone,_,_=>False
 | .bts _ _ _ _ _,_,_=>False
 | .bcells _ _ _ _,_,_=>False
 | .bos _ _ _ _,_,_=>False
theorem s5(ag:Bool)(T:Ty)(xs:List (den T)):(dS ag T xs).isSl=true:=by
 cases H:a6 ag T with
 |true=>obtain⟨rfl,k,rfl⟩:=aO.1 H;rfl
 |false=>rw[cB H];rfl
theorem m8.unique: ∀{s:Sh} {vs:List AV} {x y:s.den},m8 s vs x->m8 s vs y->x=y
 | .int k,vs,x,y,J,H=>by
  have M:vs= [.lit (.int k x)]:=J;have K:vs= [.lit (.int k y)]:=H;rw[M]at K;exact(Value.int.inj (AV.lit.inj (yb1 K).1)).2
 | .bool,vs,x,y,J,H=>by
  have M:vs= [.lit (.bool x)]:=J;have K:vs= [.lit (.bool y)]:=H;rw[M]at K;exact Value.bool.inj (AV.lit.inj (yb1 K).1)
 | .str,vs,x,y,J,H=>by
  have M:vs= [.lit (.string x)]:=J;have K:vs= [.lit (.string y)]:=H;rw[M]at K;exact Value.string.inj (AV.lit.inj (yb1 K).1)
 | .nilS,_,_,_,_,_=>rfl
 | .nilP,_,_,_,_,_=>rfl
 | .undef,_,_,_,_,_=>rfl
 | .ptr _ _ _ _,_,_,_,_,_=>rfl
 | .msw _ _,_,_,_,_,_=>rfl
 | .nil,_,_,_,_,_=>rfl
 | .bnone,_,_,_,h,_=>h.elim
 | .bts _ _ _ _ _,_,_,_,h,_=>h.elim
 | .bcells _ _ _ _,_,_,_,h,_=>h.elim
 | .bos _ _ _ _,_,_,_,h,_=>h.elim
 | .sl β ag T,vs,x,y,J,H=>by
  rcases J with ⟨b1,_,J⟩|⟨J,e1⟩<;>rcases H with ⟨b2,_,H⟩|⟨H,e2⟩
  ·rw[J]at H;simp only[List.cons.injEq,AV.imm.injEq,and_true]at H;exact Sl H.2
  ·rw[J]at H;simp at H
  ·rw[J]at H;simp at H
  ·rw[e1,e2]
 | .el β ag T c,vs,x,y,J,H=>by
  obtain⟨b1,_,J⟩:=J;obtain⟨b2,_,H⟩:=H;rw[J]at H;simp only[List.cons.injEq,AV.el.injEq,and_true]at H;exact Hb H.2
 | .ptrI b g c,vs,x,y,J,H=>by
  have M:vs= [.ptr b g x c]:=J;have K:vs= [.ptr b g y c]:=H;rw[M]at K;exact(AV.ptr.inj (yb1 K).1).2.2.1
 | .ms b g,vs,x,y,J,H=>by
  have M:vs= [.ms b g (Prod.fst x) (Prod.snd x)]:=J;have K:vs= [.ms b g (Prod.fst y) (Prod.snd y)]:=H;rw[M]at K;simp only[List.cons.injEq,AV.ms.injEq,and_true,true_and]at K;exact Prod.ext K.1 K.2
 | .fn f fi ca,vs,x,y,J,H=>by
  obtain⟨a1,W,J,N,Y⟩:=J;obtain⟨Z,U,H,O,V⟩:=H;rw[J]at H;simp only[List.cons.injEq,AV.fn.injEq,and_true,true_and]at H;obtain⟨rfl,rfl⟩:=H;exact P2.ext (N.unique O) (Y.unique V)
 | .agg l,vs,x,y,J,H=>by
  obtain⟨W,J,N⟩:=J;obtain⟨U,H,O⟩:=H;rw[J]at H;simp only[List.cons.injEq,AV.agg.injEq,and_true]at H;subst H;exact m8.unique (s:=l) N O
 | .tup l,vs,x,y,J,H=>by
  obtain⟨W,J,N⟩:=J;obtain⟨U,H,O⟩:=H;rw[J]at H;simp only[List.cons.injEq,AV.tup.injEq,and_true]at H;subst H;exact m8.unique (s:=l) N O
 | .cons a b,vs,x,y,J,H=>by
  obtain⟨a1,W,J,N,Y⟩:=J;obtain⟨Z,U,H,O,V⟩:=H;rw[J]at H;simp only[List.cons.injEq]at H;obtain⟨rfl,rfl⟩:=H;exact P2.ext (N.unique O) (Y.unique V)
def Sh.one:Sh->Bool
 | .nil=>false
 | .cons _ _=>false
 | .bnone=>false
 | .bts _ _ _ _ _=>false
 | .bcells _ _ _ _=>false
 | .bos _ _ _ _=>false
 |_=>true
def Sh.okL:Sh->Bool
 | .cons a b=>a.one&&a.okL&&b.okL
 | .fn _ fi ca=>fi.okL&&ca.okL
 | .agg l=>l.okL
 | .tup l=>l.okL
 | .bnone=>false
 | .bts _ _ _ _ _=>false
 | .bcells _ _ _ _=>false
 | .bos _ _ _ _=>false
 |_=>true
theorem Jr{s:Sh}(h:s.one=true)(d:s.den): ∃v,dN s d= [v]:=by
 cases s<;>first|(cases h;done)|exact⟨_,rfl⟩
theorem m8.refl: ∀{s:Sh},s.okL=true->∀d:s.den,m8 s (KV.downs (dN s d)) d
 | .int _,_,_=>rfl
 | .bool,_,_=>rfl
 | .str,_,_=>rfl
 | .nilS,_,_=>rfl
 | .nilP,_,_=>rfl
 | .undef,_,_=>rfl
 | .sl β ag T,_,xs=> .inl ⟨β,id,rfl⟩
 | .el β ag T c,_,x=>⟨β,id,rfl⟩
 | .ptr _ _ _ _,_,_=>rfl
 | .ptrI _ _ _,_,_=>rfl
 | .ms _ _,_,_=>rfl
 | .msw _ _,_,_=>rfl
 | .fn f K M,h,p=>by
  have H:(K.okL&&M.okL)=true:=h;rw[yc]at H;exact⟨_,_,rfl,m8.refl H.1 _,m8.refl H.2 _⟩
 | .agg l,h,p=>⟨_,rfl,m8.refl (s:=l) h p⟩
 | .tup l,h,p=>⟨_,rfl,m8.refl (s:=l) h p⟩
 | .nil,_,_=>rfl
 | .bnone,h,_=>by cases h
 | .bts _ _ _ _ _,h,_=>by cases h
 | .bcells _ _ _ _,h,_=>by cases h
 | .bos _ _ _ _,h,_=>by cases h
 | .cons a b,h,p=>by
  have H:(a.one&&a.okL&&b.okL)=true:=h;simp only[yc]at H;obtain⟨v,J⟩:=Jr H.1.1 (P2.fst a.dflt _ _ p);have e:KV.downs (dN (.cons a b) p)=v.down::KV.downs (dN b (P2.snd b.dflt _ _ p)):=by
   show KV.downs (dN a (P2.fst a.dflt _ _ p)++dN b (P2.snd b.dflt _ _ p))=_;rw[J];rfl
  refine⟨_,_,e,?_,m8.refl H.2 _⟩;have:=m8.refl H.1.2 (P2.fst a.dflt _ _ p);rw[J]at this;exact this
end Go.Ab
