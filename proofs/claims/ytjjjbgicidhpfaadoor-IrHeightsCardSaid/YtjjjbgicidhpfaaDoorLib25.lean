import Derived.Test.YtjjjbgicidhpfaaDoorLib24
set_option linter.unusedVariables false
set_option linter.unusedSectionVars false
set_option linter.unusedSimpArgs false
namespace Go.Ab
variable [cS]
theorem dE{a b:Nat}:iW a b=true↔a=b:=nb
theorem P2.fst_mk'{a b:Sh}{x:a.den}{y:b.den}{p:P2 a.un b.un a.den b.den}(h:P2.mk a.un b.un x y=p):P2.fst a.dflt a.un b.un p=x:=by subst h;exact Go.Ab.fst_mk x y
theorem P2.snd_mk'{a b:Sh}{x:a.den}{y:b.den}{p:P2 a.un b.un a.den b.den}(h:P2.mk a.un b.un x y=p):P2.snd b.dflt a.un b.un p=y:=by subst h;exact Go.Ab.snd_mk x y
section
variable {nz:Bool} {vs:List KV} {m:aH}
theorem NR{k:IntKind}:fQ nz (.int k) vs=(match vs with| [.lit (.int H x)]=>bif jS k H then some x else none|_=>none):=rfl
theorem KY:fQ nz .bool vs=(match vs with| [.lit (.bool x)]=>some x|_=>none):=rfl
theorem Om:fQ nz .str vs=(match vs with| [.lit (.string x)]=>some x|_=>none):=rfl
theorem KQ:fQ nz .nilS vs=(match vs with| [.lit (.slice none 0 0)]=>some ()|_=>none):=rfl
theorem Kz:fQ nz .nilP vs=(match vs with| [.lit (.pointer none)]=>some ()|_=>none):=rfl
theorem Js:fQ nz .undef vs=(match vs with| [.lit (.tuple a)]=>(match a.toList with| []=>some ()|_=>none)|_=>none):=rfl
theorem Rm{β ag:Bool}{T:Ty}:fQ nz (.sl β ag T) vs=(match vs with
  | [.tsl β' H J xs]=>bif(fJ β β'||(nz&&β))&&fJ ag H then vB J T xs else none
  | [.lit (.slice none 0 0)]=>bif nz then some []else none
  |_=>none):=rfl
theorem QT{β ag:Bool}{T:Ty}{c:Nat}:fQ nz (.el β ag T c) vs=(match vs with
  | [.el β' H J x K]=>bif(fJ β β'||(nz&&β))&&fJ ag H&&iW c K then KP (F:=Go.Ab.den) (Ty.beq J T) rfl x else none
  |_=>none):=rfl
theorem Na{b g i c:Nat}:fQ nz (.ptr b g i c) vs=(match vs with| [.ptr K g' J H]=>bif iW b K&&iW g g'&&iW i J&&iW c H then some ()else none|_=>none):=rfl
theorem Lc{b g c:Nat}:fQ nz (.ptrI b g c) vs=(match vs with| [.ptr J g' i H]=>bif iW b J&&iW g g'&&iW c H then some i else none|_=>none):=rfl
theorem QL{b g:Nat}:fQ nz (.ms b g) vs=(match vs with| [.ms H g' o n]=>bif iW b H&&iW g g' then some (o,n)else none|_=>none):=rfl
theorem Nk{b g:Nat}:fQ nz (.msw b g) vs=(match vs with| [.msw H g']=>bif iW b H&&iW g g' then some ()else none|_=>none):=rfl
theorem QJ{f:FuncId}{M K:Sh}:fQ nz (.fn f M K) vs=(match vs with
  | [.fn (.func N) J H]=>bif iW f N then
    (match fQ nz M J with
    |some x=>(match fQ nz K H with|some y=>some (P2.mk _ _ x y)|none=>none)
    |none=>none)else none
  |_=>none):=rfl
theorem WQ{l:Sh}:fQ nz (.agg l) vs=(match vs with| [.agg cs]=>fQ nz l cs|_=>none):=rfl
theorem WP{l:Sh}:fQ nz (.tup l) vs=(match vs with| [.tup cs]=>fQ nz l cs|_=>none):=rfl
theorem MS:fQ nz .nil vs=(match vs with| []=>some ()|_=>none):=rfl
theorem K8{a b:Sh}:fQ nz (.cons a b) vs=(match vs with
  |v::r=>
   (match fQ nz a [v] with
   |some x=>(match fQ nz b r with|some y=>some (P2.mk _ _ x y)|none=>none)
   |none=>none)
  | []=>none):=rfl
theorem Tk:C3 nz .nil m=(match m with| []=>some ()|_=>none):=rfl
theorem RQ{a b:Sh}:C3 nz (.cons a b) m=(match m with
  |x::r=>
   (match C3 nz a [x] with
   |some x=>(match C3 nz b r with|some y=>some (P2.mk _ _ x y)|none=>none)
   |none=>none)
  | []=>none):=rfl
theorem Qj:C3 nz .bnone m=(match m with| [none]=>some ()|_=>none):=rfl
theorem Tb{gen:Nat}{frz β ag:Bool}{T:Ty}:C3 nz (.bts gen frz β ag T) m=(match m with
  | [some ⟨J,H,.ts β' K M xs⟩]=>bif iW gen J&&fJ frz H&&fJ β β'&&fJ ag K then vB M T xs else none
  |_=>none):=rfl
theorem VT{gen:Nat}{frz:Bool}{e:Nat}{l:Sh}:C3 nz (.bcells gen frz e l) m=(match m with
  | [some ⟨J,H,.cells K cs⟩]=>bif iW gen J&&fJ frz H&&iW e K then fQ false l cs else none
  |_=>none):=rfl
theorem T4{gen:Nat}{frz:Bool}{T:Ty}{l:Sh}:C3 nz (.bos gen frz T l) m=(match m with
  | [some ⟨J,H,.os K xs hs⟩]=>bif iW gen J&&fJ frz H then
    (match vB K T xs with
    |some M=>(match fQ false l (m6 hs)with|some p=>some (P2.mk false l.un M p)|none=>none)
    |none=>none)else none
  |_=>none):=rfl
end
theorem Ks: ∀hs:dL,kW (m6 hs)=hs
 | []=>rfl
 |(i,c,v)::hs=>by
  show(i,c,v)::kW (m6 hs)=_
  rw[Ks hs]
theorem UK{A:Type}{ub:Bool}{B:Type}(d x:A)(y:B):P2.fst d false ub (P2.mk false ub x y)=x:=by cases ub<;>rfl
theorem UV{A:Type}{l:Sh}(x:A)(y:l.den):P2.snd l.dflt false l.un (P2.mk false l.un x y)=y:=by
 rcases P2.snd_mk (db:=l.dflt) (ua:=false) (ub:=l.un) x y with h|h
 ·exact rQ h _ _
 ·exact h
theorem Qx{α β γ:Type}(f:α->β->γ){a H:α}{b J:β}(M:a=H)(K:b=J):f a b=f H J:=by rw[M,K]
theorem CD{nz:Bool}{l:Sh}{vs:List KV}{d:l.den}(h:fQ nz (.agg l) vs=some d): ∃cs,vs= [.agg cs]/\fQ nz l cs=some d:=by
 have h: @Eq (Option l.den) (match(generalizing:=false) vs with| [.agg cs]=>fQ nz l cs|_=>none) (some d):=h;split at h
 ·exact⟨_,rfl,h⟩
 ·cases h
theorem Dy{nz:Bool}{l:Sh}{vs:List KV}{d:l.den}(h:fQ nz (.tup l) vs=some d): ∃cs,vs= [.tup cs]/\fQ nz l cs=some d:=by
 have h: @Eq (Option l.den) (match(generalizing:=false) vs with| [.tup cs]=>fQ nz l cs|_=>none) (some d):=h;split at h
 ·exact⟨_,rfl,h⟩
 ·cases h
theorem G8{nz:Bool}{gen:Nat}{frz:Bool}{e:Nat}{l:Sh}{m:aH}{d:l.den}(h:C3 nz (.bcells gen frz e l) m=some d): ∃cs,m= [some ⟨gen,frz,.cells e cs⟩]/\fQ false l cs=some d:=by
 have h: @Eq (Option l.den) (match(generalizing:=false) m with
  | [some ⟨J,H,.cells N cs⟩]=>bif iW gen J&&fJ frz H&&iW e N then fQ false l cs else none
  |_=>none) (some d):=h
 split at h
 ·obtain⟨K,M⟩:=cJ.1 h;simp only[yc,dE]at K;obtain⟨⟨rfl,K⟩,rfl⟩:=K;obtain rfl:=iR K;exact⟨_,rfl,M⟩
 ·cases h
theorem pE: ∀{s:Sh} {vs:List KV} {d:s.den},fQ false s vs=some d->vs=eD s d
 | .int k,vs,d,h=>by
  rw[NR]at h;split at h<;>try contradiction
  obtain⟨H,J⟩:=cJ.1 h;obtain rfl:=yR.1 H;cases J;rfl
 | .bool,vs,d,h=>by
  rw[KY]at h;split at h<;>first|contradiction|cases h
  rfl
 | .str,vs,d,h=>by
  rw[Om]at h;split at h<;>first|contradiction|cases h
  rfl
 | .nilS,vs,d,h=>by
  rw[KQ]at h;split at h<;>first|contradiction|cases h
  rfl
 | .nilP,vs,d,h=>by
  rw[Kz]at h;split at h<;>first|contradiction|cases h
  rfl
 | .undef,vs,d,h=>by
  rw[Js]at h;split at h<;>try contradiction
  rename_i a;split at h<;>try contradiction
  rename_i U;obtain⟨l⟩:=a;simp only at U;subst U;rfl
 | .sl β ag T,vs,d,h=>by
  rw[Rm]at h;split at h<;>try contradiction
  ·rename_i β' N W xs;obtain⟨H,J⟩:=cJ.1 h;simp only[Bool.false_and,Bool.or_false,yc]at H;obtain rfl:=iR H.1;obtain rfl:=iR H.2;obtain⟨e,J⟩:=eT J;subst e;simp only at J;subst J;rfl
 | .el β ag T c,vs,d,h=>by
  rw[QT]at h;split at h<;>try contradiction
  rename_i β' N W x c';obtain⟨H,J⟩:=cJ.1 h;simp only[Bool.false_and,Bool.or_false,yc]at H;obtain rfl:=iR H.1.1;obtain rfl:=iR H.1.2;obtain rfl:=dE.1 H.2;obtain⟨e,J⟩:=p7 J;subst e;simp only at J;subst J;rfl
 | .ptr b g i c,vs,d,h=>by
  rw[Na]at h;split at h<;>try contradiction
  obtain⟨H,J⟩:=cJ.1 h;simp only[yc,dE]at H;obtain⟨⟨⟨rfl,rfl⟩,rfl⟩,rfl⟩:=H;rfl
 | .ptrI b g c,vs,d,h=>by
  rw[Lc]at h;split at h<;>try contradiction
  obtain⟨H,J⟩:=cJ.1 h;simp only[yc,dE]at H;obtain⟨⟨rfl,rfl⟩,rfl⟩:=H;cases J;rfl
 | .ms b g,vs,d,h=>by
  rw[QL]at h;split at h<;>try contradiction
  obtain⟨H,J⟩:=cJ.1 h;simp only[yc,dE]at H;obtain⟨rfl,rfl⟩:=H;cases J;rfl
 | .msw b g,vs,d,h=>by
  rw[Nk]at h;split at h<;>try contradiction
  obtain⟨H,J⟩:=cJ.1 h;simp only[yc,dE]at H;obtain⟨rfl,rfl⟩:=H;rfl
 | .fn f Y V,vs,d,h=>by
  rw[QJ]at h;split at h<;>try contradiction
  obtain⟨H,J⟩:=cJ.1 h;obtain rfl:=dE.1 H;split at J<;>try contradiction
  rename_i x M;split at J<;>try contradiction
  rename_i y O;have K:=yb J;exact Qx (λu v=> [KV.fn (.func f) u v]) ((pE M).trans (congrArg (eD Y) (P2.fst_mk' K).symm)) ((pE O).trans (congrArg (eD V) (P2.snd_mk' K).symm))
 | .agg l,vs,d,h=>by
  obtain⟨cs,rfl,h⟩:=CD h;exact congrArg (λu=> [KV.agg u]) (pE (s:=l) h)
 | .tup l,vs,d,h=>by
  obtain⟨cs,rfl,h⟩:=Dy h;exact congrArg (λu=> [KV.tup u]) (pE (s:=l) h)
 | .nil,vs,d,h=>by
  rw[MS]at h;split at h<;>first|contradiction|cases h
  rfl
 | .cons a b,vs,d,h=>by
  rw[K8]at h;split at h<;>try contradiction
  split at h<;>try contradiction
  rename_i x M;split at h<;>try contradiction
  rename_i y O;have K:=yb h;exact Qx (λ(u v:List KV)=>u++v) ((pE M).trans (congrArg (eD a) (P2.fst_mk' K).symm)) ((pE O).trans (congrArg (eD b) (P2.snd_mk' K).symm))
 | .bnone,vs,d,h=>by cases h
 | .bts _ _ _ _ _,vs,d,h=>by cases h
 | .bcells _ _ _ _,vs,d,h=>by cases h
 | .bos _ _ _ _,vs,d,h=>by cases h
theorem rH: ∀{s:Sh} {vs:List KV} {d:s.den},fQ true s vs=some d->oS s (KV.downs vs) d
 | .int k,vs,d,h=>by
  rw[NR]at h;split at h<;>try contradiction
  obtain⟨H,J⟩:=cJ.1 h;obtain rfl:=yR.1 H;cases J;rfl
 | .bool,vs,d,h=>by
  rw[KY]at h;split at h<;>first|contradiction|cases h
  rfl
 | .str,vs,d,h=>by
  rw[Om]at h;split at h<;>first|contradiction|cases h
  rfl
 | .nilS,vs,d,h=>by
  rw[KQ]at h;split at h<;>first|contradiction|cases h
  rfl
 | .nilP,vs,d,h=>by
  rw[Kz]at h;split at h<;>first|contradiction|cases h
  rfl
 | .undef,vs,d,h=>by
  rw[Js]at h;split at h<;>try contradiction
  rename_i a;split at h<;>try contradiction
  rename_i Y;obtain⟨l⟩:=a;simp only at Y;subst Y;rfl
 | .sl β ag T,vs,d,h=>by
  rw[Rm]at h;split at h<;>try contradiction
  ·rename_i β' O Z xs;obtain⟨H,J⟩:=cJ.1 h;simp only[yq1,yc,yh2]at H;obtain rfl:=iR H.2;obtain⟨e,J⟩:=eT J;subst e;simp only at J;subst J;refine .inl ⟨β',λW=>?_,rfl⟩;rcases H.1 with h|h
   ·rw[iR h];exact W
   ·exact h
  ·exact .inr ⟨rfl,(yb h).symm⟩
 | .el β ag T c,vs,d,h=>by
  rw[QT]at h;split at h<;>try contradiction
  rename_i β' O Z x c';obtain⟨H,J⟩:=cJ.1 h;simp only[yq1,yc,yh2]at H;obtain rfl:=iR H.1.2;obtain rfl:=dE.1 H.2;obtain⟨e,J⟩:=p7 J;subst e;simp only at J;subst J;refine⟨β',λW=>?_,rfl⟩;rcases H.1.1 with h|h
  ·rw[iR h];exact W
  ·exact h
 | .ptr b g i c,vs,d,h=>by
  rw[Na]at h;split at h<;>try contradiction
  obtain⟨H,J⟩:=cJ.1 h;simp only[yc,dE]at H;obtain⟨⟨⟨rfl,rfl⟩,rfl⟩,rfl⟩:=H;rfl
 | .ptrI b g c,vs,d,h=>by
  rw[Lc]at h;split at h<;>try contradiction
  obtain⟨H,J⟩:=cJ.1 h;simp only[yc,dE]at H;obtain⟨⟨rfl,rfl⟩,rfl⟩:=H;cases J;rfl
 | .ms b g,vs,d,h=>by
  rw[QL]at h;split at h<;>try contradiction
  obtain⟨H,J⟩:=cJ.1 h;simp only[yc,dE]at H;obtain⟨rfl,rfl⟩:=H;cases J;rfl
 | .msw b g,vs,d,h=>by
  rw[Nk]at h;split at h<;>try contradiction
  obtain⟨H,J⟩:=cJ.1 h;simp only[yc,dE]at H;obtain⟨rfl,rfl⟩:=H;rfl
 | .fn f fi ca,vs,d,h=>by
  rw[QJ]at h;split at h<;>try contradiction
  obtain⟨H,J⟩:=cJ.1 h;obtain rfl:=dE.1 H;split at J<;>try contradiction
  rename_i x M;split at J<;>try contradiction
  rename_i y V;have K:=yb J;have U:=P2.fst_mk' K;have N:=P2.snd_mk' K;exact⟨_,_,rfl,U ▸ rH M,N ▸ rH V⟩
 | .agg l,vs,d,h=>by
  obtain⟨cs,rfl,h⟩:=CD h;exact⟨_,rfl,rH (s:=l) h⟩
 | .tup l,vs,d,h=>by
  obtain⟨cs,rfl,h⟩:=Dy h;exact⟨_,rfl,rH (s:=l) h⟩
 | .nil,vs,d,h=>by
  rw[MS]at h;split at h<;>first|contradiction|cases h
  rfl
 | .cons a b,vs,d,h=>by
  rw[K8]at h;split at h<;>try contradiction
  split at h<;>try contradiction
  rename_i x M;split at h<;>try contradiction
  rename_i y V;have K:=yb h;have U:=P2.fst_mk' K;have N:=P2.snd_mk' K;exact⟨_,_,rfl,U ▸ rH M,N ▸ rH V⟩
 | .bnone,vs,d,h=>by cases h
 | .bts _ _ _ _ _,vs,d,h=>by cases h
 | .bcells _ _ _ _,vs,d,h=>by cases h
 | .bos _ _ _ _,vs,d,h=>by cases h
theorem MO{nz:Bool}{gen:Nat}{frz:Bool}{T:Ty}{l:Sh}{m:aH}{d:(Sh.bos gen frz T l).den}(h:C3 nz (.bos gen frz T l) m=some d):
  ∃(xs:List (den T)) (hs:dL) (p:l.den),m= [some ⟨gen,frz,.os T xs hs⟩]/\fQ false l (m6 hs)=some p/\d=P2.mk false l.un xs p:=by
 rw[T4]at h;split at h<;>try contradiction
 obtain⟨H,J⟩:=cJ.1 h;simp only[yc,dE]at H;obtain⟨rfl,H⟩:=H;obtain rfl:=iR H;split at J<;>try contradiction
 rename_i ys M;obtain⟨e,K⟩:=eT M;subst e;simp only at K;subst K;split at J<;>try contradiction
 rename_i p N;exact⟨_,_,p,rfl,N,(yb J).symm⟩
theorem Ed{nz:Bool}: ∀{s:Sh} {m:aH} {d:s.den},C3 nz s m=some d->m=jC s d
 | .nil,m,d,h=>by
  rw[Tk]at h;split at h<;>first|contradiction|cases h
  rfl
 | .cons a b,m,d,h=>by
  rw[RQ]at h;split at h<;>try contradiction
  split at h<;>try contradiction
  rename_i x N;split at h<;>try contradiction
  rename_i y V;have K:=yb h;exact Qx (λ(u v:aH)=>u++v) ((Ed N).trans (congrArg (jC a) (P2.fst_mk' K).symm)) ((Ed V).trans (congrArg (jC b) (P2.snd_mk' K).symm))
 | .bnone,m,d,h=>by
  rw[Qj]at h;split at h<;>first|contradiction|cases h
  rfl
 | .bts gen frz β ag T,m,d,h=>by
  rw[Tb]at h;split at h<;>try contradiction
  obtain⟨J,H⟩:=cJ.1 h;simp only[yc,dE]at J;obtain⟨⟨⟨rfl,J⟩,M⟩,O⟩:=J;obtain rfl:=iR J;obtain rfl:=iR M;obtain rfl:=iR O;obtain⟨e,H⟩:=eT H;subst e;simp only at H;subst H;rfl
 | .bcells gen frz e l,m,d,h=>by
  obtain⟨cs,hm,H⟩:=G8 h;exact hm.trans (congrArg (λu=>([some ⟨gen,frz,.cells e u⟩]:aH)) (pE (s:=l) H))
 | .bos gen frz T l,m,d,h=>by
  obtain⟨xs,hs,p,rfl,K,rfl⟩:=MO h;have U:=pE (s:=l) K;show _=([some ⟨gen,frz,.os T (P2.fst (A:=List (Go.Ab.den T)) [] false l.un (P2.mk false l.un xs p)) (kW (eD l (P2.snd l.dflt false l.un (P2.mk false l.un xs p))))⟩]:aH)
  rw[UK,UV,<-U,Ks]
 | .int _,m,d,h| .bool,m,d,h| .str,m,d,h| .nilS,m,d,h| .nilP,m,d,h| .undef,m,d,h| .sl _ _ _,m,d,h| .el _ _ _ _,m,d,h| .ptr _ _ _ _,m,d,h
 | .ptrI _ _ _,m,d,h| .ms _ _,m,d,h| .msw _ _,m,d,h| .fn _ _ _,m,d,h| .agg _,m,d,h| .tup _,m,d,h=>by cases h
end Go.Ab
