import Derived.Test.YtjjjbgicidhpfaaDoorLib22
import Derived.Test.YtjjjbgicidhpfaaDoorLib5
set_option linter.unusedVariables false
set_option linter.unusedSectionVars false
set_option linter.unusedSimpArgs false
namespace Go.Ab
variable [b3]
theorem P2.ext{A B:Type}{da:A}{db:B}: ∀{ua ub:Bool} {p q:P2 ua ub A B},P2.fst da ua ub p=P2.fst da ua ub q->P2.snd db ua ub p=P2.snd db ua ub q->p=q
 |true,true,p,q,I,H=>H
 |true,false,p,q,I,H=>H
 |false,true,p,q,I,H=>I
 |false,false,p,q,I,H=>Prod.ext I H
theorem P2.fst_mk{A B:Type}{da:A}: ∀{ua ub:Bool} (a:A) (b:B),ua=true\/P2.fst da ua ub (P2.mk ua ub a b)=a
 |true,_,_,_=> .inl rfl
 |false,true,_,_=> .inr rfl
 |false,false,_,_=> .inr rfl
theorem P2.snd_mk{A B:Type}{db:B}: ∀{ua ub:Bool} (a:A) (b:B),ub=true\/P2.snd db ua ub (P2.mk ua ub a b)=b
 |true,true,_,_=> .inl rfl
 |true,false,_,_=> .inr rfl
 |false,true,_,_=> .inl rfl
 |false,false,_,_=> .inr rfl
theorem nK: ∀{s:Sh},s.un=true->∀x y:s.den,x=y
 | .nilS,_,x,y=>rfl
 | .nilP,_,x,y=>rfl
 | .undef,_,x,y=>rfl
 | .ptr _ _ _ _,_,x,y=>rfl
 | .msw _ _,_,x,y=>rfl
 | .nil,_,x,y=>rfl
 | .bnone,_,x,y=>rfl
 | .fn f J I,h,x,y=>by
  have H:FE J.un I.un=true:=h;rw[mL,yb]at H;exact P2.ext (da:=J.dflt) (db:=I.dflt) (nK H.1 _ _) (nK H.2 _ _)
 | .cons a b,h,x,y=>by
  have H:FE a.un b.un=true:=h;rw[mL,yb]at H;exact P2.ext (da:=a.dflt) (db:=b.dflt) (nK H.1 _ _) (nK H.2 _ _)
 | .agg l,h,x,y=>nK (s:=l) h x y
 | .tup l,h,x,y=>nK (s:=l) h x y
 | .bcells _ _ _ l,h,x,y=>nK (s:=l) h x y
 | .int _,h,_,_=>by cases h
 | .bool,h,_,_=>by cases h
 | .str,h,_,_=>by cases h
 | .sl _ _ _,h,_,_=>by cases h
 | .el _ _ _ _,h,_,_=>by cases h
 | .ptrI _ _ _,h,_,_=>by cases h
 | .ms _ _,h,_,_=>by cases h
 | .bts _ _ _ _ _,h,_,_=>by cases h
 | .bos _ _ _ _,h,_,_=>by cases h
theorem fst_mk{a b:Sh}(x:a.den)(y:b.den):P2.fst a.dflt a.un b.un (P2.mk a.un b.un x y)=x:=by
 rcases P2.fst_mk (da:=a.dflt) (ua:=a.un) (ub:=b.un) x y with h|h
 ·exact nK h _ _
 ·exact h
theorem snd_mk{a b:Sh}(x:a.den)(y:b.den):P2.snd b.dflt a.un b.un (P2.mk a.un b.un x y)=y:=by
 rcases P2.snd_mk (db:=b.dflt) (ua:=a.un) (ub:=b.un) x y with h|h
 ·exact nK h _ _
 ·exact h
theorem CE{α β:Type}{f:α->β}(I: ∀x y,f x=f y->x=y): ∀{xs H:List α},xs.map f=H.map f->xs=H
 | [],[],_=>rfl
 |x::xs,y::H,h=>by
  simp only[yt1,List.cons.injEq]at h;rw[I _ _ h.1,CE I h.2]
 | [],_::_,h=>by cases h
 |_::_,[],h=>by cases h
theorem F6{ag:Bool}{T:Ty}(H: ∀x y:den T,aO T x=aO T y->x=y)(x y:den T)(h:cF ag T x=cF ag T y):x=y:=by
 have:=congrArg PV.cells h;rw[b4,b4]at this;exact H x y this
theorem Gx{ag:Bool}{T:Ty}(J: ∀x y:den T,aO T x=aO T y->x=y){xs I:List (den T)}(h:c8 ag T xs=c8 ag T I):xs=I:=by
 cases H:aY ag T with
 |true=>
  obtain⟨rfl,k,rfl⟩:=aN.1 H;exact(PV.ints.inj h).2
 |false=>
  rw[bU H,bU H]at h;exact CE (F6 J) (PV.sl.inj h).2
theorem kF: ∀{T:Ty} (x y:den T),aO T x=aO T y->x=y
 | .int k,x,y,h=>by
  simp only[aO,List.cons.injEq,PV.lit.injEq,and_true]at h;exact(Value.int.inj h).2
 | .bool,x,y,h=>by
  simp only[aO,List.cons.injEq,PV.lit.injEq,and_true]at h;exact Value.bool.inj h
 | .str,x,y,h=>by
  simp only[aO,List.cons.injEq,PV.lit.injEq,and_true]at h;exact Value.string.inj h
 | .sl ag T,x,y,h=>by
  simp only[aO,List.cons.injEq,and_true]at h;exact Gx (λx y=>kF x y) h
 | .cons a b,x,y,h=>by
  simp only[aO]at h;have J:(aO a (Prod.fst x)).length=(aO a (Prod.fst y)).length:=by rw[bN,bN]
  obtain⟨I,H⟩:=List.append_inj h J;exact Prod.ext (kF _ _ I) (kF _ _ H)
theorem Fc{ag:Bool}{T:Ty}{x y:den T}(h:cF ag T x=cF ag T y):x=y:=F6 kF x y h
theorem Ni{ag:Bool}{T:Ty}{xs H:List (den T)}(h:c8 ag T xs=c8 ag T H):xs=H:=Gx kF h
def kO:(s:Sh)->List AV->s.den->Prop
 | .int k,vs,x=>vs= [.lit (.int k x)]
 | .bool,vs,x=>vs= [.lit (.bool x)]
 | .str,vs,x=>vs= [.lit (.string x)]
 | .nilS,vs,_=>vs= [.lit (.slice none 0 0)]
 | .nilP,vs,_=>vs= [.lit (.pointer none)]
 | .undef,vs,_=>vs= [.lit (.tuple #[])]
 | .sl β ag T,vs,xs=>(∃β',(β'=true->β=true)/\vs= [.imm β' (c8 ag T xs)])\/(vs= [.lit (.slice none 0 0)]/\xs=([]:List _))
 | .el β ag T c,vs,x=> ∃β',(β'=true->β=true)/\vs= [.el β' (cF ag T x) c]
 | .ptr b g i c,vs,_=>vs= [.ptr b g i c]
 | .ptrI b g c,vs,i=>vs= [.ptr b g i c]
 | .ms b g,vs,p=>vs= [.ms b g (Prod.fst p) (Prod.snd p)]
 | .msw b g,vs,_=>vs= [.msw b g]
 | .fn f fi ca,vs,p=> ∃fi' ca',vs= [.fn (.func f) fi' ca']/\kO fi fi' (P2.fst fi.dflt _ _ p)/\kO ca ca' (P2.snd ca.dflt _ _ p)
 | .agg l,vs,p=> ∃cs,vs= [.agg cs]/\kO l cs p
 | .tup l,vs,p=> ∃cs,vs= [.tup cs]/\kO l cs p
 | .nil,vs,_=>vs= []
 | .cons a b,vs,p=> ∃v r,vs=v::r/\kO a [v] (P2.fst a.dflt _ _ p)/\kO b r (P2.snd b.dflt _ _ p)
 | .bnone,_,_=>False
 | .bts _ _ _ _ _,_,_=>False
 | .bcells _ _ _ _,_,_=>False
 | .bos _ _ _ _,_,_=>False
theorem pT(ag:Bool)(T:Ty)(xs:List (den T)):(c8 ag T xs).isSl=true:=by
 cases H:aY ag T with
 |true=>obtain⟨rfl,k,rfl⟩:=aN.1 H;rfl
 |false=>rw[bU H];rfl
theorem kO.unique: ∀{s:Sh} {vs:List AV} {x y:s.den},kO s vs x->kO s vs y->x=y
 | .int k,vs,x,y,I,H=>by
  have K:vs= [.lit (.int k x)]:=I;have J:vs= [.lit (.int k y)]:=H;rw[K]at J;exact(Value.int.inj (AV.lit.inj (yx J).1)).2
 | .bool,vs,x,y,I,H=>by
  have K:vs= [.lit (.bool x)]:=I;have J:vs= [.lit (.bool y)]:=H;rw[K]at J;exact Value.bool.inj (AV.lit.inj (yx J).1)
 | .str,vs,x,y,I,H=>by
  have K:vs= [.lit (.string x)]:=I;have J:vs= [.lit (.string y)]:=H;rw[K]at J;exact Value.string.inj (AV.lit.inj (yx J).1)
 | .nilS,_,_,_,_,_=>rfl
 | .nilP,_,_,_,_,_=>rfl
 | .undef,_,_,_,_,_=>rfl
 | .ptr _ _ _ _,_,_,_,_,_=>rfl
 | .msw _ _,_,_,_,_,_=>rfl
 | .nil,_,_,_,_,_=>rfl
 | .bnone,_,_,_,h,_=>h.elim
 | .bts _ _ _ _ _,_,_,_,h,_=>h.elim
 | .bcells _ _ _ _,_,_,_,h,_=>h.elim
 | .bos _ _ _ _,_,_,_,h,_=>h.elim
 | .sl β ag T,vs,x,y,I,H=>by
  rcases I with ⟨b1,_,I⟩|⟨I,Z⟩<;>rcases H with ⟨Y,_,H⟩|⟨H,e2⟩
  ·rw[I]at H;simp only[List.cons.injEq,AV.imm.injEq,and_true]at H;exact Ni H.2
  ·rw[I]at H;simp at H
  ·rw[I]at H;simp at H
  ·rw[Z,e2]
 | .el β ag T c,vs,x,y,I,H=>by
  obtain⟨b1,_,I⟩:=I;obtain⟨Y,_,H⟩:=H;rw[I]at H;simp only[List.cons.injEq,AV.el.injEq,and_true]at H;exact Fc H.2
 | .ptrI b g c,vs,x,y,I,H=>by
  have K:vs= [.ptr b g x c]:=I;have J:vs= [.ptr b g y c]:=H;rw[K]at J;exact(AV.ptr.inj (yx J).1).2.2.1
 | .ms b g,vs,x,y,I,H=>by
  have K:vs= [.ms b g (Prod.fst x) (Prod.snd x)]:=I;have J:vs= [.ms b g (Prod.fst y) (Prod.snd y)]:=H;rw[K]at J;simp only[List.cons.injEq,AV.ms.injEq,and_true,true_and]at J;exact Prod.ext J.1 J.2
 | .fn f fi ca,vs,x,y,I,H=>by
  obtain⟨a1,W,I,N,O⟩:=I;obtain⟨a2,V,H,M,U⟩:=H;rw[I]at H;simp only[List.cons.injEq,AV.fn.injEq,and_true,true_and]at H;obtain⟨rfl,rfl⟩:=H;exact P2.ext (N.unique M) (O.unique U)
 | .agg l,vs,x,y,I,H=>by
  obtain⟨W,I,N⟩:=I;obtain⟨V,H,M⟩:=H;rw[I]at H;simp only[List.cons.injEq,AV.agg.injEq,and_true]at H;subst H;exact kO.unique (s:=l) N M
 | .tup l,vs,x,y,I,H=>by
  obtain⟨W,I,N⟩:=I;obtain⟨V,H,M⟩:=H;rw[I]at H;simp only[List.cons.injEq,AV.tup.injEq,and_true]at H;subst H;exact kO.unique (s:=l) N M
 | .cons a b,vs,x,y,I,H=>by
  obtain⟨a1,W,I,N,O⟩:=I;obtain⟨a2,V,H,M,U⟩:=H;rw[I]at H;simp only[List.cons.injEq]at H;obtain⟨rfl,rfl⟩:=H;exact P2.ext (N.unique M) (O.unique U)
def Sh.one:Sh->Bool
 | .nil=>false
 | .cons _ _=>false
 | .bnone=>false
 | .bts _ _ _ _ _=>false
 | .bcells _ _ _ _=>false
 | .bos _ _ _ _=>false
 |_=>true
def Sh.okL:Sh->Bool
 | .cons a b=>a.one&&a.okL&&b.okL
 | .fn _ fi ca=>fi.okL&&ca.okL
 | .agg l=>l.okL
 | .tup l=>l.okL
 | .bnone=>false
 | .bts _ _ _ _ _=>false
 | .bcells _ _ _ _=>false
 | .bos _ _ _ _=>false
 |_=>true
theorem Hb{s:Sh}(h:s.one=true)(d:s.den): ∃v,c6 s d= [v]:=by
 cases s<;>first|(cases h;done)|exact⟨_,rfl⟩
theorem kO.refl: ∀{s:Sh},s.okL=true->∀d:s.den,kO s (KV.downs (c6 s d)) d
 | .int _,_,_=>rfl
 | .bool,_,_=>rfl
 | .str,_,_=>rfl
 | .nilS,_,_=>rfl
 | .nilP,_,_=>rfl
 | .undef,_,_=>rfl
 | .sl β ag T,_,xs=> .inl ⟨β,id,rfl⟩
 | .el β ag T c,_,x=>⟨β,id,rfl⟩
 | .ptr _ _ _ _,_,_=>rfl
 | .ptrI _ _ _,_,_=>rfl
 | .ms _ _,_,_=>rfl
 | .msw _ _,_,_=>rfl
 | .fn f J K,h,p=>by
  have H:(J.okL&&K.okL)=true:=h;rw[yb]at H;exact⟨_,_,rfl,kO.refl H.1 _,kO.refl H.2 _⟩
 | .agg l,h,p=>⟨_,rfl,kO.refl (s:=l) h p⟩
 | .tup l,h,p=>⟨_,rfl,kO.refl (s:=l) h p⟩
 | .nil,_,_=>rfl
 | .bnone,h,_=>by cases h
 | .bts _ _ _ _ _,h,_=>by cases h
 | .bcells _ _ _ _,h,_=>by cases h
 | .bos _ _ _ _,h,_=>by cases h
 | .cons a b,h,p=>by
  have H:(a.one&&a.okL&&b.okL)=true:=h;simp only[yb]at H;obtain⟨v,I⟩:=Hb H.1.1 (P2.fst a.dflt _ _ p);have e:KV.downs (c6 (.cons a b) p)=v.down::KV.downs (c6 b (P2.snd b.dflt _ _ p)):=by
   show KV.downs (c6 a (P2.fst a.dflt _ _ p)++c6 b (P2.snd b.dflt _ _ p))=_;rw[I];rfl
  refine⟨_,_,e,?_,kO.refl H.2 _⟩;have:=kO.refl H.1.2 (P2.fst a.dflt _ _ p);rw[I]at this;exact this
end Go.Ab
