import Derived.Test.YtjjjbgicidhpfaaDoorLib24
set_option linter.unusedVariables false
set_option linter.unusedSectionVars false
set_option linter.unusedSimpArgs false
namespace Go.Ab
variable [cF]
theorem cU{a b:Nat}:gU a b=true↔a=b:=nb
theorem P2.fst_mk'{a b:Sh}{x:a.den}{y:b.den}{p:P2 a.un b.un a.den b.den}(h:P2.mk a.un b.un x y=p):P2.fst a.dflt a.un b.un p=x:=by subst h;exact Go.Ab.fst_mk x y
theorem P2.snd_mk'{a b:Sh}{x:a.den}{y:b.den}{p:P2 a.un b.un a.den b.den}(h:P2.mk a.un b.un x y=p):P2.snd b.dflt a.un b.un p=y:=by subst h;exact Go.Ab.snd_mk x y
section
variable {nz:Bool} {vs:List KV} {m:aF}
theorem MH{k:IntKind}:eU nz (.int k) vs=(match vs with| [.lit (.int H x)]=>bif iK k H then some x else none|_=>none):=rfl
theorem I0:eU nz .bool vs=(match vs with| [.lit (.bool x)]=>some x|_=>none):=rfl
theorem Lx:eU nz .str vs=(match vs with| [.lit (.string x)]=>some x|_=>none):=rfl
theorem It:eU nz .nilS vs=(match vs with| [.lit (.slice none 0 0)]=>some ()|_=>none):=rfl
theorem IS:eU nz .nilP vs=(match vs with| [.lit (.pointer none)]=>some ()|_=>none):=rfl
theorem Hy:eU nz .undef vs=(match vs with| [.lit (.tuple a)]=>(match a.toList with| []=>some ()|_=>none)|_=>none):=rfl
theorem Po{β ag:Bool}{T:Ty}:eU nz (.sl β ag T) vs=(match vs with
  | [.tsl β' H J xs]=>bif(eP β β'||(nz&&β))&&eP ag H then q9 J T xs else none
  | [.lit (.slice none 0 0)]=>bif nz then some []else none
  |_=>none):=rfl
theorem O9{β ag:Bool}{T:Ty}{c:Nat}:eU nz (.el β ag T c) vs=(match vs with
  | [.el β' H J x K]=>bif(eP β β'||(nz&&β))&&eP ag H&&gU c K then IL (F:=Go.Ab.den) (Ty.beq J T) rfl x else none
  |_=>none):=rfl
theorem MG{b g i c:Nat}:eU nz (.ptr b g i c) vs=(match vs with| [.ptr J g' H K]=>bif gU b J&&gU g g'&&gU i H&&gU c K then some ()else none|_=>none):=rfl
theorem Ji{b g c:Nat}:eU nz (.ptrI b g c) vs=(match vs with| [.ptr H g' i J]=>bif gU b H&&gU g g'&&gU c J then some i else none|_=>none):=rfl
theorem Pk{b g:Nat}:eU nz (.ms b g) vs=(match vs with| [.ms H g' o n]=>bif gU b H&&gU g g' then some (o,n)else none|_=>none):=rfl
theorem Mp{b g:Nat}:eU nz (.msw b g) vs=(match vs with| [.msw H g']=>bif gU b H&&gU g g' then some ()else none|_=>none):=rfl
theorem OP{f:FuncId}{K M:Sh}:eU nz (.fn f K M) vs=(match vs with
  | [.fn (.func N) H J]=>bif gU f N then
    (match eU nz K H with
    |some x=>(match eU nz M J with|some y=>some (P2.mk _ _ x y)|none=>none)
    |none=>none)else none
  |_=>none):=rfl
theorem UL{l:Sh}:eU nz (.agg l) vs=(match vs with| [.agg cs]=>eU nz l cs|_=>none):=rfl
theorem UV{l:Sh}:eU nz (.tup l) vs=(match vs with| [.tup cs]=>eU nz l cs|_=>none):=rfl
theorem K2:eU nz .nil vs=(match vs with| []=>some ()|_=>none):=rfl
theorem IX{a b:Sh}:eU nz (.cons a b) vs=(match vs with
  |v::r=>
   (match eU nz a [v] with
   |some x=>(match eU nz b r with|some y=>some (P2.mk _ _ x y)|none=>none)
   |none=>none)
  | []=>none):=rfl
theorem Sf:BI nz .nil m=(match m with| []=>some ()|_=>none):=rfl
theorem Qq{a b:Sh}:BI nz (.cons a b) m=(match m with
  |x::r=>
   (match BI nz a [x] with
   |some x=>(match BI nz b r with|some y=>some (P2.mk _ _ x y)|none=>none)
   |none=>none)
  | []=>none):=rfl
theorem Ns:BI nz .bnone m=(match m with| [none]=>some ()|_=>none):=rfl
theorem RK{gen:Nat}{frz β ag:Bool}{T:Ty}:BI nz (.bts gen frz β ag T) m=(match m with
  | [some ⟨H,J,.ts β' K M xs⟩]=>bif gU gen H&&eP frz J&&eP β β'&&eP ag K then q9 M T xs else none
  |_=>none):=rfl
theorem TT{gen:Nat}{frz:Bool}{e:Nat}{l:Sh}:BI nz (.bcells gen frz e l) m=(match m with
  | [some ⟨H,J,.cells K cs⟩]=>bif gU gen H&&eP frz J&&gU e K then eU false l cs else none
  |_=>none):=rfl
theorem Rd{gen:Nat}{frz:Bool}{T:Ty}{l:Sh}:BI nz (.bos gen frz T l) m=(match m with
  | [some ⟨H,J,.os K xs hs⟩]=>bif gU gen H&&eP frz J then
    (match q9 K T xs with
    |some M=>(match eU false l (lH hs)with|some p=>some (P2.mk false l.un M p)|none=>none)
    |none=>none)else none
  |_=>none):=rfl
end
theorem IQ: ∀hs:c7,jF (lH hs)=hs
 | []=>rfl
 |(i,c,v)::hs=>by
  show(i,c,v)::jF (lH hs)=_
  rw[IQ hs]
theorem Tp{A:Type}{ub:Bool}{B:Type}(d x:A)(y:B):P2.fst d false ub (P2.mk false ub x y)=x:=by cases ub<;>rfl
theorem Te{A:Type}{l:Sh}(x:A)(y:l.den):P2.snd l.dflt false l.un (P2.mk false l.un x y)=y:=by
 rcases P2.snd_mk (db:=l.dflt) (ua:=false) (ub:=l.un) x y with h|h
 ·exact p8 h _ _
 ·exact h
theorem Ot{α β γ:Type}(f:α->β->γ){a H:α}{b J:β}(K:a=H)(M:b=J):f a b=f H J:=by rw[K,M]
theorem Bn{nz:Bool}{l:Sh}{vs:List KV}{d:l.den}(h:eU nz (.agg l) vs=some d): ∃cs,vs= [.agg cs]/\eU nz l cs=some d:=by
 have h: @Eq (Option l.den) (match(generalizing:=false) vs with| [.agg cs]=>eU nz l cs|_=>none) (some d):=h;split at h
 ·exact⟨_,rfl,h⟩
 ·cases h
theorem Bq{nz:Bool}{l:Sh}{vs:List KV}{d:l.den}(h:eU nz (.tup l) vs=some d): ∃cs,vs= [.tup cs]/\eU nz l cs=some d:=by
 have h: @Eq (Option l.den) (match(generalizing:=false) vs with| [.tup cs]=>eU nz l cs|_=>none) (some d):=h;split at h
 ·exact⟨_,rfl,h⟩
 ·cases h
theorem FA{nz:Bool}{gen:Nat}{frz:Bool}{e:Nat}{l:Sh}{m:aF}{d:l.den}(h:BI nz (.bcells gen frz e l) m=some d): ∃cs,m= [some ⟨gen,frz,.cells e cs⟩]/\eU false l cs=some d:=by
 have h: @Eq (Option l.den) (match(generalizing:=false) m with
  | [some ⟨J,H,.cells M cs⟩]=>bif gU gen J&&eP frz H&&gU e M then eU false l cs else none
  |_=>none) (some d):=h
 split at h
 ·obtain⟨K,N⟩:=bZ.1 h;simp only[yc,cU]at K;obtain⟨⟨rfl,K⟩,rfl⟩:=K;obtain rfl:=gM K;exact⟨_,rfl,N⟩
 ·cases h
theorem nN: ∀{s:Sh} {vs:List KV} {d:s.den},eU false s vs=some d->vs=dN s d
 | .int k,vs,d,h=>by
  rw[MH]at h;split at h<;>try contradiction
  obtain⟨H,J⟩:=bZ.1 h;obtain rfl:=vO.1 H;cases J;rfl
 | .bool,vs,d,h=>by
  rw[I0]at h;split at h<;>first|contradiction|cases h
  rfl
 | .str,vs,d,h=>by
  rw[Lx]at h;split at h<;>first|contradiction|cases h
  rfl
 | .nilS,vs,d,h=>by
  rw[It]at h;split at h<;>first|contradiction|cases h
  rfl
 | .nilP,vs,d,h=>by
  rw[IS]at h;split at h<;>first|contradiction|cases h
  rfl
 | .undef,vs,d,h=>by
  rw[Hy]at h;split at h<;>try contradiction
  rename_i a;split at h<;>try contradiction
  rename_i U;obtain⟨l⟩:=a;simp only at U;subst U;rfl
 | .sl β ag T,vs,d,h=>by
  rw[Po]at h;split at h<;>try contradiction
  ·rename_i β' O Y xs;obtain⟨H,J⟩:=bZ.1 h;simp only[Bool.false_and,Bool.or_false,yc]at H;obtain rfl:=gM H.1;obtain rfl:=gM H.2;obtain⟨e,J⟩:=eA J;subst e;simp only at J;subst J;rfl
 | .el β ag T c,vs,d,h=>by
  rw[O9]at h;split at h<;>try contradiction
  rename_i β' O Y x c';obtain⟨H,J⟩:=bZ.1 h;simp only[Bool.false_and,Bool.or_false,yc]at H;obtain rfl:=gM H.1.1;obtain rfl:=gM H.1.2;obtain rfl:=cU.1 H.2;obtain⟨e,J⟩:=oH J;subst e;simp only at J;subst J;rfl
 | .ptr b g i c,vs,d,h=>by
  rw[MG]at h;split at h<;>try contradiction
  obtain⟨H,J⟩:=bZ.1 h;simp only[yc,cU]at H;obtain⟨⟨⟨rfl,rfl⟩,rfl⟩,rfl⟩:=H;rfl
 | .ptrI b g c,vs,d,h=>by
  rw[Ji]at h;split at h<;>try contradiction
  obtain⟨H,J⟩:=bZ.1 h;simp only[yc,cU]at H;obtain⟨⟨rfl,rfl⟩,rfl⟩:=H;cases J;rfl
 | .ms b g,vs,d,h=>by
  rw[Pk]at h;split at h<;>try contradiction
  obtain⟨H,J⟩:=bZ.1 h;simp only[yc,cU]at H;obtain⟨rfl,rfl⟩:=H;cases J;rfl
 | .msw b g,vs,d,h=>by
  rw[Mp]at h;split at h<;>try contradiction
  obtain⟨H,J⟩:=bZ.1 h;simp only[yc,cU]at H;obtain⟨rfl,rfl⟩:=H;rfl
 | .fn f V W,vs,d,h=>by
  rw[OP]at h;split at h<;>try contradiction
  obtain⟨H,J⟩:=bZ.1 h;obtain rfl:=cU.1 H;split at J<;>try contradiction
  rename_i x N;split at J<;>try contradiction
  rename_i y M;have K:=ya J;exact Ot (λu v=> [KV.fn (.func f) u v]) ((nN N).trans (congrArg (dN V) (P2.fst_mk' K).symm)) ((nN M).trans (congrArg (dN W) (P2.snd_mk' K).symm))
 | .agg l,vs,d,h=>by
  obtain⟨cs,rfl,h⟩:=Bn h;exact congrArg (λu=> [KV.agg u]) (nN (s:=l) h)
 | .tup l,vs,d,h=>by
  obtain⟨cs,rfl,h⟩:=Bq h;exact congrArg (λu=> [KV.tup u]) (nN (s:=l) h)
 | .nil,vs,d,h=>by
  rw[K2]at h;split at h<;>first|contradiction|cases h
  rfl
 | .cons a b,vs,d,h=>by
  rw[IX]at h;split at h<;>try contradiction
  split at h<;>try contradiction
  rename_i x N;split at h<;>try contradiction
  rename_i y M;have K:=ya h;exact Ot (λ(u v:List KV)=>u++v) ((nN N).trans (congrArg (dN a) (P2.fst_mk' K).symm)) ((nN M).trans (congrArg (dN b) (P2.snd_mk' K).symm))
 | .bnone,vs,d,h=>by cases h
 | .bts _ _ _ _ _,vs,d,h=>by cases h
 | .bcells _ _ _ _,vs,d,h=>by cases h
 | .bos _ _ _ _,vs,d,h=>by cases h
theorem pP: ∀{s:Sh} {vs:List KV} {d:s.den},eU true s vs=some d->m8 s (KV.downs vs) d
 | .int k,vs,d,h=>by
  rw[MH]at h;split at h<;>try contradiction
  obtain⟨H,J⟩:=bZ.1 h;obtain rfl:=vO.1 H;cases J;rfl
 | .bool,vs,d,h=>by
  rw[I0]at h;split at h<;>first|contradiction|cases h
  rfl
 | .str,vs,d,h=>by
  rw[Lx]at h;split at h<;>first|contradiction|cases h
  rfl
 | .nilS,vs,d,h=>by
  rw[It]at h;split at h<;>first|contradiction|cases h
  rfl
 | .nilP,vs,d,h=>by
  rw[IS]at h;split at h<;>first|contradiction|cases h
  rfl
 | .undef,vs,d,h=>by
  rw[Hy]at h;split at h<;>try contradiction
  rename_i a;split at h<;>try contradiction
  rename_i Y;obtain⟨l⟩:=a;simp only at Y;subst Y;rfl
 | .sl β ag T,vs,d,h=>by
  rw[Po]at h;split at h<;>try contradiction
  ·rename_i β' V Z xs;obtain⟨H,J⟩:=bZ.1 h;simp only[yo2,yc,yc2]at H;obtain rfl:=gM H.2;obtain⟨e,J⟩:=eA J;subst e;simp only at J;subst J;refine .inl ⟨β',λN=>?_,rfl⟩;rcases H.1 with h|h
   ·rw[gM h];exact N
   ·exact h
  ·exact .inr ⟨rfl,(ya h).symm⟩
 | .el β ag T c,vs,d,h=>by
  rw[O9]at h;split at h<;>try contradiction
  rename_i β' V Z x c';obtain⟨H,J⟩:=bZ.1 h;simp only[yo2,yc,yc2]at H;obtain rfl:=gM H.1.2;obtain rfl:=cU.1 H.2;obtain⟨e,J⟩:=oH J;subst e;simp only at J;subst J;refine⟨β',λN=>?_,rfl⟩;rcases H.1.1 with h|h
  ·rw[gM h];exact N
  ·exact h
 | .ptr b g i c,vs,d,h=>by
  rw[MG]at h;split at h<;>try contradiction
  obtain⟨H,J⟩:=bZ.1 h;simp only[yc,cU]at H;obtain⟨⟨⟨rfl,rfl⟩,rfl⟩,rfl⟩:=H;rfl
 | .ptrI b g c,vs,d,h=>by
  rw[Ji]at h;split at h<;>try contradiction
  obtain⟨H,J⟩:=bZ.1 h;simp only[yc,cU]at H;obtain⟨⟨rfl,rfl⟩,rfl⟩:=H;cases J;rfl
 | .ms b g,vs,d,h=>by
  rw[Pk]at h;split at h<;>try contradiction
  obtain⟨H,J⟩:=bZ.1 h;simp only[yc,cU]at H;obtain⟨rfl,rfl⟩:=H;cases J;rfl
 | .msw b g,vs,d,h=>by
  rw[Mp]at h;split at h<;>try contradiction
  obtain⟨H,J⟩:=bZ.1 h;simp only[yc,cU]at H;obtain⟨rfl,rfl⟩:=H;rfl
 | .fn f fi ca,vs,d,h=>by
  rw[OP]at h;split at h<;>try contradiction
  obtain⟨H,J⟩:=bZ.1 h;obtain rfl:=cU.1 H;split at J<;>try contradiction
  rename_i x O;split at J<;>try contradiction
  rename_i y M;have K:=ya J;have W:=P2.fst_mk' K;have U:=P2.snd_mk' K;exact⟨_,_,rfl,W ▸ pP O,U ▸ pP M⟩
 | .agg l,vs,d,h=>by
  obtain⟨cs,rfl,h⟩:=Bn h;exact⟨_,rfl,pP (s:=l) h⟩
 | .tup l,vs,d,h=>by
  obtain⟨cs,rfl,h⟩:=Bq h;exact⟨_,rfl,pP (s:=l) h⟩
 | .nil,vs,d,h=>by
  rw[K2]at h;split at h<;>first|contradiction|cases h
  rfl
 | .cons a b,vs,d,h=>by
  rw[IX]at h;split at h<;>try contradiction
  split at h<;>try contradiction
  rename_i x O;split at h<;>try contradiction
  rename_i y M;have K:=ya h;have W:=P2.fst_mk' K;have U:=P2.snd_mk' K;exact⟨_,_,rfl,W ▸ pP O,U ▸ pP M⟩
 | .bnone,vs,d,h=>by cases h
 | .bts _ _ _ _ _,vs,d,h=>by cases h
 | .bcells _ _ _ _,vs,d,h=>by cases h
 | .bos _ _ _ _,vs,d,h=>by cases h
theorem Ka{nz:Bool}{gen:Nat}{frz:Bool}{T:Ty}{l:Sh}{m:aF}{d:(Sh.bos gen frz T l).den}(h:BI nz (.bos gen frz T l) m=some d):
  ∃(xs:List (den T)) (hs:c7) (p:l.den),m= [some ⟨gen,frz,.os T xs hs⟩]/\eU false l (lH hs)=some p/\d=P2.mk false l.un xs p:=by
 rw[Rd]at h;split at h<;>try contradiction
 obtain⟨H,J⟩:=bZ.1 h;simp only[yc,cU]at H;obtain⟨rfl,H⟩:=H;obtain rfl:=gM H;split at J<;>try contradiction
 rename_i ys N;obtain⟨e,K⟩:=eA N;subst e;simp only at K;subst K;split at J<;>try contradiction
 rename_i p M;exact⟨_,_,p,rfl,M,(ya J).symm⟩
theorem BJ{nz:Bool}: ∀{s:Sh} {m:aF} {d:s.den},BI nz s m=some d->m=gX s d
 | .nil,m,d,h=>by
  rw[Sf]at h;split at h<;>first|contradiction|cases h
  rfl
 | .cons a b,m,d,h=>by
  rw[Qq]at h;split at h<;>try contradiction
  split at h<;>try contradiction
  rename_i x N;split at h<;>try contradiction
  rename_i y M;have K:=ya h;exact Ot (λ(u v:aF)=>u++v) ((BJ N).trans (congrArg (gX a) (P2.fst_mk' K).symm)) ((BJ M).trans (congrArg (gX b) (P2.snd_mk' K).symm))
 | .bnone,m,d,h=>by
  rw[Ns]at h;split at h<;>first|contradiction|cases h
  rfl
 | .bts gen frz β ag T,m,d,h=>by
  rw[RK]at h;split at h<;>try contradiction
  obtain⟨J,H⟩:=bZ.1 h;simp only[yc,cU]at J;obtain⟨⟨⟨rfl,J⟩,V⟩,U⟩:=J;obtain rfl:=gM J;obtain rfl:=gM V;obtain rfl:=gM U;obtain⟨e,H⟩:=eA H;subst e;simp only at H;subst H;rfl
 | .bcells gen frz e l,m,d,h=>by
  obtain⟨cs,hm,H⟩:=FA h;exact hm.trans (congrArg (λu=>([some ⟨gen,frz,.cells e u⟩]:aF)) (nN (s:=l) H))
 | .bos gen frz T l,m,d,h=>by
  obtain⟨xs,hs,p,rfl,K,rfl⟩:=Ka h;have O:=nN (s:=l) K;show _=([some ⟨gen,frz,.os T (P2.fst (A:=List (Go.Ab.den T)) [] false l.un (P2.mk false l.un xs p)) (jF (dN l (P2.snd l.dflt false l.un (P2.mk false l.un xs p))))⟩]:aF)
  rw[Tp,Te,<-O,IQ]
 | .int _,m,d,h| .bool,m,d,h| .str,m,d,h| .nilS,m,d,h| .nilP,m,d,h| .undef,m,d,h| .sl _ _ _,m,d,h| .el _ _ _ _,m,d,h| .ptr _ _ _ _,m,d,h
 | .ptrI _ _ _,m,d,h| .ms _ _,m,d,h| .msw _ _,m,d,h| .fn _ _ _,m,d,h| .agg _,m,d,h| .tup _,m,d,h=>by cases h
end Go.Ab
