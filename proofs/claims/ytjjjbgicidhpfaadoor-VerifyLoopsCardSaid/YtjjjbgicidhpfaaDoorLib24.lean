import Derived.Test.YtjjjbgicidhpfaaDoorLib23
set_option linter.unusedVariables false
set_option linter.unusedSectionVars false
set_option linter.unusedSimpArgs false
namespace Go.Ab
variable [b3]
theorem cG{a b:Nat}:fD a b=true↔a=b:=nb
theorem P2.fst_mk'{a b:Sh}{x:a.den}{y:b.den}{p:P2 a.un b.un a.den b.den}(h:P2.mk a.un b.un x y=p):P2.fst a.dflt a.un b.un p=x:=by subst h;exact Go.Ab.fst_mk x y
theorem P2.snd_mk'{a b:Sh}{x:a.den}{y:b.den}{p:P2 a.un b.un a.den b.den}(h:P2.mk a.un b.un x y=p):P2.snd b.dflt a.un b.un p=y:=by subst h;exact Go.Ab.snd_mk x y
section
variable {nz:Bool} {vs:List KV} {m:aE}
theorem Jn{k:IntKind}:d4 nz (.int k) vs=(match vs with| [.lit (.int H x)]=>bif fY k H then some x else none|_=>none):=rfl
theorem FI:d4 nz .bool vs=(match vs with| [.lit (.bool x)]=>some x|_=>none):=rfl
theorem IQ:d4 nz .str vs=(match vs with| [.lit (.string x)]=>some x|_=>none):=rfl
theorem Gj:d4 nz .nilS vs=(match vs with| [.lit (.slice none 0 0)]=>some ()|_=>none):=rfl
theorem F7:d4 nz .nilP vs=(match vs with| [.lit (.pointer none)]=>some ()|_=>none):=rfl
theorem Du:d4 nz .undef vs=(match vs with| [.lit (.tuple a)]=>(match a.toList with| []=>some ()|_=>none)|_=>none):=rfl
theorem Lj{β ag:Bool}{T:Ty}:d4 nz (.sl β ag T) vs=(match vs with
  | [.tsl β' H I xs]=>bif(dY β β'||(nz&&β))&&dY ag H then oN I T xs else none
  | [.lit (.slice none 0 0)]=>bif nz then some []else none
  |_=>none):=rfl
theorem Lo{β ag:Bool}{T:Ty}{c:Nat}:d4 nz (.el β ag T c) vs=(match vs with
  | [.el β' H I x J]=>bif(dY β β'||(nz&&β))&&dY ag H&&fD c J then Ga (F:=Go.Ab.den) (Ty.beq I T) rfl x else none
  |_=>none):=rfl
theorem Jm{b g i c:Nat}:d4 nz (.ptr b g i c) vs=(match vs with| [.ptr H g' J I]=>bif fD b H&&fD g g'&&fD i J&&fD c I then some ()else none|_=>none):=rfl
theorem F4{b g c:Nat}:d4 nz (.ptrI b g c) vs=(match vs with| [.ptr H g' i I]=>bif fD b H&&fD g g'&&fD c I then some i else none|_=>none):=rfl
theorem K9{b g:Nat}:d4 nz (.ms b g) vs=(match vs with| [.ms H g' o n]=>bif fD b H&&fD g g' then some (o,n)else none|_=>none):=rfl
theorem Io{b g:Nat}:d4 nz (.msw b g) vs=(match vs with| [.msw H g']=>bif fD b H&&fD g g' then some ()else none|_=>none):=rfl
theorem Lp{f:FuncId}{K J:Sh}:d4 nz (.fn f K J) vs=(match vs with
  | [.fn (.func M) I H]=>bif fD f M then
    (match d4 nz K I with
    |some x=>(match d4 nz J H with|some y=>some (P2.mk _ _ x y)|none=>none)
    |none=>none)else none
  |_=>none):=rfl
theorem Pb{l:Sh}:d4 nz (.agg l) vs=(match vs with| [.agg cs]=>d4 nz l cs|_=>none):=rfl
theorem Pe{l:Sh}:d4 nz (.tup l) vs=(match vs with| [.tup cs]=>d4 nz l cs|_=>none):=rfl
theorem H0:d4 nz .nil vs=(match vs with| []=>some ()|_=>none):=rfl
theorem FX{a b:Sh}:d4 nz (.cons a b) vs=(match vs with
  |v::r=>
   (match d4 nz a [v] with
   |some x=>(match d4 nz b r with|some y=>some (P2.mk _ _ x y)|none=>none)
   |none=>none)
  | []=>none):=rfl
theorem Nf:yT nz .nil m=(match m with| []=>some ()|_=>none):=rfl
theorem Mw{a b:Sh}:yT nz (.cons a b) m=(match m with
  |x::r=>
   (match yT nz a [x] with
   |some x=>(match yT nz b r with|some y=>some (P2.mk _ _ x y)|none=>none)
   |none=>none)
  | []=>none):=rfl
theorem Ki:yT nz .bnone m=(match m with| [none]=>some ()|_=>none):=rfl
theorem NG{gen:Nat}{frz β ag:Bool}{T:Ty}:yT nz (.bts gen frz β ag T) m=(match m with
  | [some ⟨I,H,.ts β' J K xs⟩]=>bif fD gen I&&dY frz H&&dY β β'&&dY ag J then oN K T xs else none
  |_=>none):=rfl
theorem OG{gen:Nat}{frz:Bool}{e:Nat}{l:Sh}:yT nz (.bcells gen frz e l) m=(match m with
  | [some ⟨I,H,.cells J cs⟩]=>bif fD gen I&&dY frz H&&fD e J then d4 false l cs else none
  |_=>none):=rfl
theorem NC{gen:Nat}{frz:Bool}{T:Ty}{l:Sh}:yT nz (.bos gen frz T l) m=(match m with
  | [some ⟨I,H,.os K xs hs⟩]=>bif fD gen I&&dY frz H then
    (match oN K T xs with
    |some J=>(match d4 false l (jR hs)with|some p=>some (P2.mk false l.un J p)|none=>none)
    |none=>none)else none
  |_=>none):=rfl
end
theorem F9: ∀hs:cK,gP (jR hs)=hs
 | []=>rfl
 |(i,c,v)::hs=>by
  show(i,c,v)::gP (jR hs)=_
  rw[F9 hs]
theorem OC{A:Type}{ub:Bool}{B:Type}(d x:A)(y:B):P2.fst d false ub (P2.mk false ub x y)=x:=by cases ub<;>rfl
theorem Ow{A:Type}{l:Sh}(x:A)(y:l.den):P2.snd l.dflt false l.un (P2.mk false l.un x y)=y:=by
 rcases P2.snd_mk (db:=l.dflt) (ua:=false) (ub:=l.un) x y with h|h
 ·exact nK h _ _
 ·exact h
theorem J1{α β γ:Type}(f:α->β->γ){a I:α}{b H:β}(K:a=I)(J:b=H):f a b=f I H:=by rw[K,J]
theorem y5{nz:Bool}{l:Sh}{vs:List KV}{d:l.den}(h:d4 nz (.agg l) vs=some d): ∃cs,vs= [.agg cs]/\d4 nz l cs=some d:=by
 have h: @Eq (Option l.den) (match(generalizing:=false) vs with| [.agg cs]=>d4 nz l cs|_=>none) (some d):=h;split at h
 ·exact⟨_,rfl,h⟩
 ·cases h
theorem Al{nz:Bool}{l:Sh}{vs:List KV}{d:l.den}(h:d4 nz (.tup l) vs=some d): ∃cs,vs= [.tup cs]/\d4 nz l cs=some d:=by
 have h: @Eq (Option l.den) (match(generalizing:=false) vs with| [.tup cs]=>d4 nz l cs|_=>none) (some d):=h;split at h
 ·exact⟨_,rfl,h⟩
 ·cases h
theorem Cm{nz:Bool}{gen:Nat}{frz:Bool}{e:Nat}{l:Sh}{m:aE}{d:l.den}(h:yT nz (.bcells gen frz e l) m=some d): ∃cs,m= [some ⟨gen,frz,.cells e cs⟩]/\d4 false l cs=some d:=by
 have h: @Eq (Option l.den) (match(generalizing:=false) m with
  | [some ⟨I,H,.cells K cs⟩]=>bif fD gen I&&dY frz H&&fD e K then d4 false l cs else none
  |_=>none) (some d):=h
 split at h
 ·obtain⟨J,M⟩:=bP.1 h;simp only[yb,cG]at J;obtain⟨⟨rfl,J⟩,rfl⟩:=J;obtain rfl:=fJ J;exact⟨_,rfl,M⟩
 ·cases h
theorem kY: ∀{s:Sh} {vs:List KV} {d:s.den},d4 false s vs=some d->vs=c6 s d
 | .int k,vs,d,h=>by
  rw[Jn]at h;split at h<;>try contradiction
  obtain⟨H,I⟩:=bP.1 h;obtain rfl:=qK.1 H;cases I;rfl
 | .bool,vs,d,h=>by
  rw[FI]at h;split at h<;>first|contradiction|cases h
  rfl
 | .str,vs,d,h=>by
  rw[IQ]at h;split at h<;>first|contradiction|cases h
  rfl
 | .nilS,vs,d,h=>by
  rw[Gj]at h;split at h<;>first|contradiction|cases h
  rfl
 | .nilP,vs,d,h=>by
  rw[F7]at h;split at h<;>first|contradiction|cases h
  rfl
 | .undef,vs,d,h=>by
  rw[Du]at h;split at h<;>try contradiction
  rename_i a;split at h<;>try contradiction
  rename_i O;obtain⟨l⟩:=a;simp only at O;subst O;rfl
 | .sl β ag T,vs,d,h=>by
  rw[Lj]at h;split at h<;>try contradiction
  ·rename_i β' N U xs;obtain⟨H,I⟩:=bP.1 h;simp only[Bool.false_and,Bool.or_false,yb]at H;obtain rfl:=fJ H.1;obtain rfl:=fJ H.2;obtain⟨e,I⟩:=dG I;subst e;simp only at I;subst I;rfl
 | .el β ag T c,vs,d,h=>by
  rw[Lo]at h;split at h<;>try contradiction
  rename_i β' N U x c';obtain⟨H,I⟩:=bP.1 h;simp only[Bool.false_and,Bool.or_false,yb]at H;obtain rfl:=fJ H.1.1;obtain rfl:=fJ H.1.2;obtain rfl:=cG.1 H.2;obtain⟨e,I⟩:=lU I;subst e;simp only at I;subst I;rfl
 | .ptr b g i c,vs,d,h=>by
  rw[Jm]at h;split at h<;>try contradiction
  obtain⟨H,I⟩:=bP.1 h;simp only[yb,cG]at H;obtain⟨⟨⟨rfl,rfl⟩,rfl⟩,rfl⟩:=H;rfl
 | .ptrI b g c,vs,d,h=>by
  rw[F4]at h;split at h<;>try contradiction
  obtain⟨H,I⟩:=bP.1 h;simp only[yb,cG]at H;obtain⟨⟨rfl,rfl⟩,rfl⟩:=H;cases I;rfl
 | .ms b g,vs,d,h=>by
  rw[K9]at h;split at h<;>try contradiction
  obtain⟨H,I⟩:=bP.1 h;simp only[yb,cG]at H;obtain⟨rfl,rfl⟩:=H;cases I;rfl
 | .msw b g,vs,d,h=>by
  rw[Io]at h;split at h<;>try contradiction
  obtain⟨H,I⟩:=bP.1 h;simp only[yb,cG]at H;obtain⟨rfl,rfl⟩:=H;rfl
 | .fn f V W,vs,d,h=>by
  rw[Lp]at h;split at h<;>try contradiction
  obtain⟨H,I⟩:=bP.1 h;obtain rfl:=cG.1 H;split at I<;>try contradiction
  rename_i x M;split at I<;>try contradiction
  rename_i y K;have J:=ya I;exact J1 (λu v=> [KV.fn (.func f) u v]) ((kY M).trans (congrArg (c6 V) (P2.fst_mk' J).symm)) ((kY K).trans (congrArg (c6 W) (P2.snd_mk' J).symm))
 | .agg l,vs,d,h=>by
  obtain⟨cs,rfl,h⟩:=y5 h;exact congrArg (λu=> [KV.agg u]) (kY (s:=l) h)
 | .tup l,vs,d,h=>by
  obtain⟨cs,rfl,h⟩:=Al h;exact congrArg (λu=> [KV.tup u]) (kY (s:=l) h)
 | .nil,vs,d,h=>by
  rw[H0]at h;split at h<;>first|contradiction|cases h
  rfl
 | .cons a b,vs,d,h=>by
  rw[FX]at h;split at h<;>try contradiction
  split at h<;>try contradiction
  rename_i x M;split at h<;>try contradiction
  rename_i y K;have J:=ya h;exact J1 (λ(u v:List KV)=>u++v) ((kY M).trans (congrArg (c6 a) (P2.fst_mk' J).symm)) ((kY K).trans (congrArg (c6 b) (P2.snd_mk' J).symm))
 | .bnone,vs,d,h=>by cases h
 | .bts _ _ _ _ _,vs,d,h=>by cases h
 | .bcells _ _ _ _,vs,d,h=>by cases h
 | .bos _ _ _ _,vs,d,h=>by cases h
theorem mY: ∀{s:Sh} {vs:List KV} {d:s.den},d4 true s vs=some d->kO s (KV.downs vs) d
 | .int k,vs,d,h=>by
  rw[Jn]at h;split at h<;>try contradiction
  obtain⟨H,I⟩:=bP.1 h;obtain rfl:=qK.1 H;cases I;rfl
 | .bool,vs,d,h=>by
  rw[FI]at h;split at h<;>first|contradiction|cases h
  rfl
 | .str,vs,d,h=>by
  rw[IQ]at h;split at h<;>first|contradiction|cases h
  rfl
 | .nilS,vs,d,h=>by
  rw[Gj]at h;split at h<;>first|contradiction|cases h
  rfl
 | .nilP,vs,d,h=>by
  rw[F7]at h;split at h<;>first|contradiction|cases h
  rfl
 | .undef,vs,d,h=>by
  rw[Du]at h;split at h<;>try contradiction
  rename_i a;split at h<;>try contradiction
  rename_i W;obtain⟨l⟩:=a;simp only at W;subst W;rfl
 | .sl β ag T,vs,d,h=>by
  rw[Lj]at h;split at h<;>try contradiction
  ·rename_i β' U Y xs;obtain⟨H,I⟩:=bP.1 h;simp only[yb3,yb,yu1]at H;obtain rfl:=fJ H.2;obtain⟨e,I⟩:=dG I;subst e;simp only at I;subst I;refine .inl ⟨β',λK=>?_,rfl⟩;rcases H.1 with h|h
   ·rw[fJ h];exact K
   ·exact h
  ·exact .inr ⟨rfl,(ya h).symm⟩
 | .el β ag T c,vs,d,h=>by
  rw[Lo]at h;split at h<;>try contradiction
  rename_i β' U Y x c';obtain⟨H,I⟩:=bP.1 h;simp only[yb3,yb,yu1]at H;obtain rfl:=fJ H.1.2;obtain rfl:=cG.1 H.2;obtain⟨e,I⟩:=lU I;subst e;simp only at I;subst I;refine⟨β',λK=>?_,rfl⟩;rcases H.1.1 with h|h
  ·rw[fJ h];exact K
  ·exact h
 | .ptr b g i c,vs,d,h=>by
  rw[Jm]at h;split at h<;>try contradiction
  obtain⟨H,I⟩:=bP.1 h;simp only[yb,cG]at H;obtain⟨⟨⟨rfl,rfl⟩,rfl⟩,rfl⟩:=H;rfl
 | .ptrI b g c,vs,d,h=>by
  rw[F4]at h;split at h<;>try contradiction
  obtain⟨H,I⟩:=bP.1 h;simp only[yb,cG]at H;obtain⟨⟨rfl,rfl⟩,rfl⟩:=H;cases I;rfl
 | .ms b g,vs,d,h=>by
  rw[K9]at h;split at h<;>try contradiction
  obtain⟨H,I⟩:=bP.1 h;simp only[yb,cG]at H;obtain⟨rfl,rfl⟩:=H;cases I;rfl
 | .msw b g,vs,d,h=>by
  rw[Io]at h;split at h<;>try contradiction
  obtain⟨H,I⟩:=bP.1 h;simp only[yb,cG]at H;obtain⟨rfl,rfl⟩:=H;rfl
 | .fn f fi ca,vs,d,h=>by
  rw[Lp]at h;split at h<;>try contradiction
  obtain⟨H,I⟩:=bP.1 h;obtain rfl:=cG.1 H;split at I<;>try contradiction
  rename_i x O;split at I<;>try contradiction
  rename_i y N;have J:=ya I;have M:=P2.fst_mk' J;have V:=P2.snd_mk' J;exact⟨_,_,rfl,M ▸ mY O,V ▸ mY N⟩
 | .agg l,vs,d,h=>by
  obtain⟨cs,rfl,h⟩:=y5 h;exact⟨_,rfl,mY (s:=l) h⟩
 | .tup l,vs,d,h=>by
  obtain⟨cs,rfl,h⟩:=Al h;exact⟨_,rfl,mY (s:=l) h⟩
 | .nil,vs,d,h=>by
  rw[H0]at h;split at h<;>first|contradiction|cases h
  rfl
 | .cons a b,vs,d,h=>by
  rw[FX]at h;split at h<;>try contradiction
  split at h<;>try contradiction
  rename_i x O;split at h<;>try contradiction
  rename_i y N;have J:=ya h;have M:=P2.fst_mk' J;have V:=P2.snd_mk' J;exact⟨_,_,rfl,M ▸ mY O,V ▸ mY N⟩
 | .bnone,vs,d,h=>by cases h
 | .bts _ _ _ _ _,vs,d,h=>by cases h
 | .bcells _ _ _ _,vs,d,h=>by cases h
 | .bos _ _ _ _,vs,d,h=>by cases h
theorem HA{nz:Bool}{gen:Nat}{frz:Bool}{T:Ty}{l:Sh}{m:aE}{d:(Sh.bos gen frz T l).den}(h:yT nz (.bos gen frz T l) m=some d):
  ∃(xs:List (den T)) (hs:cK) (p:l.den),m= [some ⟨gen,frz,.os T xs hs⟩]/\d4 false l (jR hs)=some p/\d=P2.mk false l.un xs p:=by
 rw[NC]at h;split at h<;>try contradiction
 obtain⟨H,I⟩:=bP.1 h;simp only[yb,cG]at H;obtain⟨rfl,H⟩:=H;obtain rfl:=fJ H;split at I<;>try contradiction
 rename_i ys M;obtain⟨e,J⟩:=dG M;subst e;simp only at J;subst J;split at I<;>try contradiction
 rename_i p K;exact⟨_,_,p,rfl,K,(ya I).symm⟩
theorem z4{nz:Bool}: ∀{s:Sh} {m:aE} {d:s.den},yT nz s m=some d->m=fM s d
 | .nil,m,d,h=>by
  rw[Nf]at h;split at h<;>first|contradiction|cases h
  rfl
 | .cons a b,m,d,h=>by
  rw[Mw]at h;split at h<;>try contradiction
  split at h<;>try contradiction
  rename_i x U;split at h<;>try contradiction
  rename_i y O;have J:=ya h;exact J1 (λ(u v:aE)=>u++v) ((z4 U).trans (congrArg (fM a) (P2.fst_mk' J).symm)) ((z4 O).trans (congrArg (fM b) (P2.snd_mk' J).symm))
 | .bnone,m,d,h=>by
  rw[Ki]at h;split at h<;>first|contradiction|cases h
  rfl
 | .bts gen frz β ag T,m,d,h=>by
  rw[NG]at h;split at h<;>try contradiction
  obtain⟨I,H⟩:=bP.1 h;simp only[yb,cG]at I;obtain⟨⟨⟨rfl,I⟩,N⟩,M⟩:=I;obtain rfl:=fJ I;obtain rfl:=fJ N;obtain rfl:=fJ M;obtain⟨e,H⟩:=dG H;subst e;simp only at H;subst H;rfl
 | .bcells gen frz e l,m,d,h=>by
  obtain⟨cs,hm,H⟩:=Cm h;exact hm.trans (congrArg (λu=>([some ⟨gen,frz,.cells e u⟩]:aE)) (kY (s:=l) H))
 | .bos gen frz T l,m,d,h=>by
  obtain⟨xs,hs,p,rfl,J,rfl⟩:=HA h;have K:=kY (s:=l) J;show _=([some ⟨gen,frz,.os T (P2.fst (A:=List (Go.Ab.den T)) [] false l.un (P2.mk false l.un xs p)) (gP (c6 l (P2.snd l.dflt false l.un (P2.mk false l.un xs p))))⟩]:aE)
  rw[OC,Ow,<-K,F9]
 | .int _,m,d,h| .bool,m,d,h| .str,m,d,h| .nilS,m,d,h| .nilP,m,d,h| .undef,m,d,h| .sl _ _ _,m,d,h| .el _ _ _ _,m,d,h| .ptr _ _ _ _,m,d,h
 | .ptrI _ _ _,m,d,h| .ms _ _,m,d,h| .msw _ _,m,d,h| .fn _ _ _,m,d,h| .agg _,m,d,h| .tup _,m,d,h=>by cases h
end Go.Ab
