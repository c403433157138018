import Derived.Test.YtjjjbgicidhpfaaDoorLib16
set_option linter.unusedVariables false
set_option linter.unusedSectionVars false
set_option linter.unusedSimpArgs false
namespace Go.Ab
variable [cF]
section
variable {P:Program} {R:Type} {r:R} {mem:aF} {tab:TypeId->Option TI}
theorem b5.under_sl{t:TypeId}{K:TI}{J:TypeId}(h:b5 P t K)(M:K.tk= .sl J):P.underlying t=some (.slice J):=by
 have:=h.tk;unfold pL at this;rw[M]at this;cases H:P.underlying t with
 |none=>rw[H]at this;simp at this
 |some d=>rw[H]at this;cases d<;>simp_all[nb]
theorem b5.under_arr{t:TypeId}{J:TI}{n:Nat}{e:TypeId}(h:b5 P t J)(K:J.tk= .arr n e):P.underlying t=some (.array n e):=by
 have:=h.tk;unfold pL at this;rw[K]at this;cases H:P.underlying t with
 |none=>rw[H]at this;simp at this
 |some d=>rw[H]at this;cases d<;>simp_all[nb]
theorem b5.under_str{t:TypeId}{J:TI}(h:b5 P t J)(K:J.tk= .str):P.underlying t=some .string:=by
 have:=h.tk;unfold pL at this;rw[K]at this;cases H:P.underlying t with
 |none=>rw[H]at this;simp at this
 |some d=>rw[H]at this;cases d<;>simp_all
theorem b5.under_int{t:TypeId}{J:TI}{k:IntKind}(h:b5 P t J)(K:J.tk= .int k):P.underlying t=some (.int k):=by
 have:=h.tk;unfold pL at this;rw[K]at this;cases H:P.underlying t with
 |none=>rw[H]at this;simp at this
 |some d=>rw[H]at this;cases d<;>simp_all[vO]
theorem b5.under_st{t:TypeId}{J:TI}{fs:List (Nat×Nat×TypeId)}(h:b5 P t J)(K:J.tk= .st fs): ∃l,P.underlying t=some (.struct l)/\E7 P fs l.toList=true:=by
 have:=h.tk;unfold pL at this;rw[K]at this;cases H:P.underlying t with
 |none=>rw[H]at this;simp at this
 |some d=>rw[H]at this;cases d<;>simp_all
theorem yJ{β ag:Bool}{T:Ty}{xs:List (den T)}(h:a6 ag T=false):(KV.tsl β ag T xs).down= .imm β (.sl T.size (xs.map (cR ag T))):=by simp only[KV.down,cB h]
theorem Q8{α β:Type}(f:α->β)(xs:List α)(i:Int):aM (xs.map f) i=(aM xs i).map f:=by
 unfold aM;cases decide (0≤i)<;>simp
theorem N9{t J:TypeId}{m:aK}{β:Bool}{H:IntKind}{xs:List Int}{i v:Int}(K:P.underlying t=some (.slice J))(hn:jR P J=some 1)(M:aM xs i=some v):
  iY P t m (.imm β (.ints H xs)) i=some {v:= .el β (.lit (.int H v)) 0}:=by simp[iY,K,hn,M,guardB]
theorem NJ{t M:TypeId}{m:aK}{β:Bool}{K:IntKind}{xs:List Int}{N H J:Option Int}{b:Nat×Nat}(O:P.underlying t=some (.slice M))(hn:jR P M=some 1)(U:iA xs.length N H J=some b):
  gL P t m (.imm β (.ints K xs)) N H J=some {v:= .imm β (.ints K ((xs.take b.2).drop b.1))}:=by simp[gL,O,hn,U,guardB]
theorem N8(ht:bT P tab){t:TypeId}{x:KV}{i:Int}{k:bC->Option R}(h:M9 (aS R) tab t mem x i k=some r): ∃out,k out=some r/\iY P t (aB mem) x.down i=some out.down:=by
 unfold M9 at h;split at h
 ·rename_i ti V;have N:=b5.of (ht _ _ V);split at h
  ·rename_i et U;have M:=N.under_sl U;split at h
   ·rename_i te J;have H:=b5.of (ht _ _ J);split at h
    ·rename_i β ag T xs;rw[bZ]at h;obtain⟨hn,h⟩:=h;have hn:=nb.1 hn;simp only[real_get]at h;rw[FJ]at h;obtain⟨v,hv,h⟩:=h;refine⟨_,h,?_⟩;cases Z:a6 ag T with
     |true=>
      obtain⟨rfl,kk,rfl⟩:=aO.1 Z;have Y:te.n=1:=hn;show iY P t (aB mem) (.imm β (.ints kk xs)) i=_;have W:aM (xs:List Int) i=some v:=hv;exact N9 M (by rw[H.n,Y]) W
     |false=>
      rw[yJ Z];simp only[iY,M,H.n,yb,eK,hn,Q8,hv,yl];exact⟨nb.2 rfl,rfl⟩
    ·rename_i b g o n;obtain⟨O,K,h⟩:=cE h;rw[bZ]at h;obtain⟨hn,h⟩:=h;simp only[real_guard]at h;rw[bZ]at h;refine⟨_,h.2,?_⟩;simp only[iY,KV.down,M,H.n,yb,K,show O.down.row=O.row.down from rfl,Ad,eK,hn,h.1,yo2];exact⟨by simp,rfl⟩
    ·rename_i b g;obtain⟨O,K,h⟩:=cE h;rw[bZ]at h;obtain⟨hn,h⟩:=h;simp only[real_guard]at h;rw[bZ]at h;refine⟨_,h.2,?_⟩;simp only[iY,KV.down,M,H.n,yb,K,show O.down.row=O.row.down from rfl,Ad,pN,eK,hn,h.1,yo2];exact⟨by simp,rfl⟩
    ·cases h
   ·cases h
  ·rename_i n e U;have M:=N.under_arr U;split at h
   ·rename_i te J;have H:=b5.of (ht _ _ J);split at h
    ·rename_i b g j c;simp only[real_guard]at h;rw[bZ]at h;refine⟨_,h.2,?_⟩;simp only[iY,KV.down,M,H.n,yb,eK];exact⟨h.1,rfl⟩
    ·cases h
   ·cases h
  ·cases h
 ·cases h
theorem N2(ht:bT P tab){t:TypeId}{x:KV}{lo Y mx:Option Int}{k:bC->Option R}(h:Nd (aS R) tab t mem x lo Y mx k=some r):
  ∃out,k out=some r/\gL P t (aB mem) x.down lo Y mx=some out.down:=by
 unfold Nd at h;split at h
 ·rename_i ti hti;have W:=b5.of (ht _ _ hti);split at h
  ·rename_i Z;have K:=W.under_str Z;split at h
   ·rename_i s;rw[bZ]at h;obtain⟨hm,h⟩:=h;obtain⟨b,hb,h⟩:=fV h;exact⟨_,h,by simp only[gL,KV.down,K,eK,hm,hb,yl];exact⟨trivial,rfl⟩⟩
   ·cases h
  ·rename_i et Z;have K:=W.under_sl Z;split at h
   ·rename_i te N;have H:=b5.of (ht _ _ N);split at h
    ·rename_i β ag T xs;rw[bZ]at h;obtain⟨hn,h⟩:=h;have hn:=nb.1 hn;obtain⟨b,hb,h⟩:=fV h;refine⟨_,h,?_⟩;cases Y:a6 ag T with
     |true=>
      obtain⟨rfl,kk,rfl⟩:=aO.1 Y;have U:te.n=1:=hn;show gL P t (aB mem) (.imm β (.ints kk xs)) lo _ mx=_;have hb':iA (xs:List Int).length lo _ mx=some b:=hb;exact NJ K (by rw[H.n,U]) hb'
     |false=>
      rw[yJ Y];simp only[gL,K,H.n,yb,eK,hn,yk1,hb,yl];exact⟨nb.2 rfl,by simp[bC.down,gV,yJ Y,aB,yl3,yh4]⟩
    ·rename_i b g o n;obtain⟨M,J,h⟩:=cE h;rw[bZ]at h;obtain⟨hn,h⟩:=h;obtain⟨q,O,h⟩:=fV h;refine⟨_,h,?_⟩;simp only[gL,KV.down,K,H.n,yb,J,show M.down.row=M.row.down from rfl,Ad,eK,hn,O,yl];exact⟨trivial,rfl⟩
    ·rename_i b g;obtain⟨M,J,h⟩:=cE h;rw[bZ]at h;obtain⟨hn,h⟩:=h;obtain⟨q,O,h⟩:=fV h;refine⟨_,h,?_⟩;simp only[gL,KV.down,K,H.n,yb,J,show M.down.row=M.row.down from rfl,Ad,pN,eK,hn,O,yl];exact⟨trivial,rfl⟩
    ·obtain⟨q,O,h⟩:=fV h;refine⟨_,h,?_⟩;simp only[gL,KV.down,K,H.n,yb,O,yl];rfl
    ·cases h
   ·cases h
  ·rename_i n e Z;have K:=W.under_arr Z;split at h
   ·rename_i te N;have H:=b5.of (ht _ _ N);split at h
    ·rename_i b g i c;rw[bZ]at h;obtain⟨hg,h⟩:=h;simp only[yc]at hg;obtain rfl:=nb.1 hg.1;have U:=nb.1 hg.2;obtain⟨M,J,h⟩:=cE h;split at h
     ·rename_i e' cs hrow;rw[bZ]at h;obtain⟨V,h⟩:=h;simp only[yc]at V;obtain rfl:=nb.1 V.1;obtain⟨q,O,h⟩:=fV h;refine⟨_,h,?_⟩;have hd:M.down.row= .cells 1 (KV.downs cs):=by rw[show M.down.row=M.row.down from rfl,hrow];rfl
      simp only[gL,KV.down,K,H.n,yb,U,eK,J,hd,aJ,V.2,O,yl];exact⟨rfl,trivial,rfl⟩
     ·cases h
    ·cases h
   ·cases h
  ·cases h
 ·cases h
theorem y8(cs:List KV)(i:Nat)(v:KV):KV.downs (cs.set i v)=(KV.downs cs).set i v.down:=by simp[cQ,List.map_set]
theorem vT: ∀(vs:List KV) (cs:List KV) (i:Nat),KV.downs (c6 cs i vs)=setCells (KV.downs cs) i (KV.downs vs)
 | [],cs,i=>rfl
 |v::vs,cs,i=>by simp only[c6,KV.downs,setCells,vT vs,d8,y8]
def dH(β:Bool)(cs:List KV)(qs:List PV):Prop:=cs.length=qs.length/\∀(j:Nat) (v:KV),cs[j]?=some v->∃q,qs[j]?=some q/\lI β v q
theorem dH.of(β:Bool)(T:Ty)(x:den T):dH β (cellsOf β T x) (aQ T x):=⟨by rw[kH.1,bV],kH.2⟩
theorem dH.set{β:Bool}{cs:List KV}{qs:List PV}(h:dH β cs qs){v:KV}{q:PV}(K:lI β v q)(i:Nat):dH β (cs.set i v) (qs.set i q):=by
 refine⟨by simp[h.1],λj w H=>?_⟩;by_cases e:j=i
 ·subst e;have J:j<cs.length:=by have:=(yd.1 H).1;simpa using this
  rw[yt J]at H;obtain rfl:=ya H;exact⟨q,yt (by rw[<-h.1];exact J),K⟩
 ·rw[yo (λx=>e x.symm)]at H;obtain⟨p,M,hc⟩:=h.2 j w H;exact⟨p,by rw[yo (λx=>e x.symm)];exact M,hc⟩
theorem dH.setRow{β:Bool}: ∀{vs:List KV} {ps:List PV} {cs:List KV} {qs:List PV} (i:Nat),dH β vs ps->dH β cs qs->dH β (c6 cs i vs) (p5 qs i ps)
 | [],[],cs,qs,i,_,h=>h
 | [],p::ps,cs,qs,i,H,h=>by cases H.1
 |v::vs,[],cs,qs,i,H,h=>by cases H.1
 |v::vs,p::ps,cs,qs,i,H,h=>by
  obtain⟨q,J,hc⟩:=H.2 0 v rfl;obtain rfl:=ya J;simp only[c6,p5,d8];exact dH.setRow (i+1) ⟨by simpa using H.1,λj w K=>by simpa using H.2 (j+1) w (by simpa using K)⟩ (h.set hc i)
theorem dH.take{β:Bool}{cs:List KV}{qs:List PV}(h:dH β cs qs)(n:Nat):dH β (cs.take n) (qs.take n):=by
 refine⟨by simp[h.1],λj v H=>?_⟩;rw[ys1]at H;split at H
 ·rename_i J;obtain⟨q,K,hc⟩:=h.2 j v H;exact⟨q,by rw[ys1,if_pos J];exact K,hc⟩
 ·cases H
theorem dH.drop{β:Bool}{cs:List KV}{qs:List PV}(h:dH β cs qs)(n:Nat):dH β (cs.drop n) (qs.drop n):=by
 refine⟨by simp[h.1],λj v H=>?_⟩;rw[ye1]at H⊢
 exact h.2 _ v H
theorem mS: ∀{T:Ty} {cs:List KV} {qs:List PV} {K:den T->Bool->List Nat->Option R},dH false cs qs->fE (aS R) mem T cs K=some r->∃z β l,K z β l=some r/\aQ T z=qs
 | .int k,cs,qs,K,hc,h=>by
  simp only[fE]at h;split at h
  ·rename_i k' x;rw[bZ]at h;obtain⟨q,J,H⟩:=hc.2 0 _ rfl;obtain⟨M,rfl⟩:=yu2.1 hc.1.symm;obtain rfl:=ya J;refine⟨x,_,_,h.2,?_⟩;obtain rfl:=vO.1 h.1;rcases H with ⟨_,_,e,rfl⟩|⟨_,e,_⟩|⟨_,e,_⟩|⟨_,_,_,e,_⟩<;>cases e
   rfl
  ·cases h
 | .bool,cs,qs,K,hc,h=>by
  simp only[fE]at h;split at h
  ·rename_i x;obtain⟨q,J,H⟩:=hc.2 0 _ rfl;obtain⟨M,rfl⟩:=yu2.1 hc.1.symm;obtain rfl:=ya J;refine⟨x,_,_,h,?_⟩;rcases H with ⟨_,_,e,_⟩|⟨_,e,rfl⟩|⟨_,e,_⟩|⟨_,_,_,e,_⟩<;>cases e
   rfl
  ·cases h
 | .str,cs,qs,K,hc,h=>by
  simp only[fE]at h;split at h
  ·rename_i x;obtain⟨q,J,H⟩:=hc.2 0 _ rfl;obtain⟨M,rfl⟩:=yu2.1 hc.1.symm;obtain rfl:=ya J;refine⟨x,_,_,h,?_⟩;rcases H with ⟨_,_,e,_⟩|⟨_,e,_⟩|⟨_,e,rfl⟩|⟨_,_,_,e,_⟩<;>cases e
   rfl
  ·cases h
 | .sl ag T,cs,qs,K,hc,h=>by
  simp only[fE]at h;split at h
  ·rename_i β V T' xs;rw[bZ]at h;obtain⟨U,h⟩:=h;obtain rfl:=KO.1 U;split at h
   ·rename_i ys N;obtain⟨rfl,rfl⟩:=eA N;obtain⟨q,J,H⟩:=hc.2 0 _ rfl;obtain⟨M,rfl⟩:=yu2.1 hc.1.symm;obtain rfl:=ya J;refine⟨xs,_,_,h,?_⟩;rcases H with ⟨_,_,e,_⟩|⟨_,e,_⟩|⟨_,e,_⟩|⟨_,_,_,e,rfl⟩<;>cases e
    rfl
   ·cases h
  ·obtain⟨q,J,H⟩:=hc.2 0 _ rfl;rcases H with ⟨_,_,e,_⟩|⟨_,e,_⟩|⟨_,e,_⟩|⟨_,_,_,e,_⟩<;>cases e
  ·obtain⟨q,J,H⟩:=hc.2 0 _ rfl;rcases H with ⟨_,_,e,_⟩|⟨_,e,_⟩|⟨_,e,_⟩|⟨_,_,_,e,_⟩<;>cases e
  ·obtain⟨q,J,H⟩:=hc.2 0 _ rfl;rcases H with ⟨_,_,e,_⟩|⟨_,e,_⟩|⟨_,e,_⟩|⟨_,_,_,e,_⟩<;>cases e
  ·cases h
 | .cons a b,cs,qs,K,hc,h=>by
  simp only[fE]at h;obtain⟨x,_,_,h,O⟩:=mS (hc.take a.size) h;obtain⟨y,β,l,h,N⟩:=mS (hc.drop a.size) h;exact⟨(x,y),_,_,h,by simp only[aQ,O,N,List.take_append_drop]⟩
theorem MS(r:KRow):r.down.okShut=CU r:=by
 cases r with
 |ts β ag T xs=>
  refine KRow.tsCases (P:=fun β ag T xs=>(KRow.ts β ag T xs).down.okShut=true) (fun β k xs=>rfl) (fun β ag T xs h=>?_) β ag T xs;rw[KRow.down_sl h];rfl
 |cells=>rfl
 |os T xs hs=>cases hs<;>rfl
theorem PW(r:KRow):(OU r).down=r.down.shut:=by
 cases r with
 |ts β ag T xs=>
  refine KRow.tsCases (P:=fun β ag T xs=>(KRow.ts β ag T xs).down=(KRow.ts β ag T xs).down.shut) (fun β k xs=>rfl) (fun β ag T xs h=>?_) β ag T xs;rw[KRow.down_sl h];rfl
 |cells=>rfl
 |os T xs hs=>exact KRow.down_sl (Jg T)
theorem vR(mem:aF): ∀(l:List Nat),(nP mem l).map (λq=>(q.1,q.2.down))=cA (aB mem) l
 | []=>rfl
 |b::l=>by
  unfold nP cA;rw[bA,eW];have H:=vR mem l;cases hb:mem[b]? with
  |none=>simpa using H
  |some x=>
   cases x with
   |none=>simpa using H
   |some x=>
    simp only[yl];rw[show x.down.row=x.row.down from rfl,MS];cases hs:CU x.row with
    |true=>
     simp only[yg,yg2,H];simp only[dE.down,PW]
    |false=>simpa using H
theorem kG{ag:Bool}{cs:List PV}(h:ag=true\/2≤cs.length):jB ag cs= .agg cs:=by
 unfold jB;split
 ·rcases h with h|h
  ·cases h
  ·simp at h
 ·rfl
theorem N5{t:TypeId}{m:aK}{b g i n:Nat}{H:bK}{J:IntKind}{xs:List Int}{v:Int}(M:box? m b g=some H)(hn:jR P t=some n)(hf:(!H.frz&&Nat.beq (AV.lit (.int J v)).cells.length n)=true)(hr:H.row= .ints J xs)
  (K:Nat.ble (i+1) xs.length=true):jV P t m (.ptr b g i 0) (.lit (.int J v))=some {v:= .lit undef,rd:= [b],wr:= [(b,{gen:=H.gen,frz:=H.frz,row:= .ints J (xs.set i v)})]}:=by
 simp only[jV,M,hn,yb];rw[eK];refine⟨hf,?_⟩;rw[hr];simp only[eK,yc];exact⟨⟨⟨vO.2 rfl,rfl⟩,K⟩,trivial⟩
theorem NE(ht:bT P tab){t:TypeId}{a x:KV}{k:bC->Option R}(h:NH (aS R) tab t mem a x k=some r): ∃out,k out=some r/\jV P t (aB mem) a.down x.down=some out.down:=by
 unfold NH at h;split at h
 ·rename_i Y hti;have M:=b5.of (ht _ _ hti);split at h
  ·rename_i b g i c;have h':=cE h;clear h;obtain⟨U,V,h⟩:=h';rw[bZ]at h;obtain⟨hg,h⟩:=h;simp only[yc]at hg;have hlen:=nb.1 hg.2;have W:(!U.down.frz&&Nat.beq x.down.cells.length Y.n)=true:=by
    rw[eS,aJ,hlen];simpa[dE.down]using hg.1
   split at h
   ·rename_i e cs N;have hd:U.down.row= .cells e (KV.downs cs):=by rw[show U.down.row=U.row.down from rfl,N];rfl
    cases J:Nat.beq Y.n 1 with
    |true=>
     rw[J]at h;simp only[yg]at h;split at h
     ·rename_i v hv;rw[bZ]at h;obtain⟨h1,h⟩:=h;obtain⟨_,hlt,h⟩:=Dw h;refine⟨_,h,?_⟩;have J:=nb.1 J;simp only[KV.down,jV,V,yb,M.n];rw[eK];refine⟨W,?_⟩;rw[hd];simp only[eK,eS,hv,aJ,yc];refine⟨⟨nl.2 (by omega),by simp[KV.downs,jX,qU h1]⟩,?_⟩;simp[bC.down,KV.down,KV.downs,dE.down,KRow.down,setCells,y8,aB]
     ·cases h
    |false=>
     rw[J]at h;simp only[yh]at h;rw[bZ]at h;obtain⟨h1,h⟩:=h;simp only[yc]at h1;refine⟨_,h,?_⟩;simp only[KV.down,jV,V,yb,M.n];rw[eK];refine⟨W,?_⟩;rw[hd];simp only[eK,eS,aJ,yc];refine⟨⟨h1.1,fG h1.2⟩,?_⟩;simp[bC.down,KV.down,dE.down,KRow.down,vT,aB]
   ·rename_i β ag T xs N;have hd:U.down.row=(KRow.ts β ag T xs).down:=by rw[show U.down.row=U.row.down from rfl,N]
    cases hi:a6 ag T with
    |true=>
     rw[hi]at h;simp only[yg]at h;split at h
     ·rename_i kd v;rw[bZ]at h;obtain⟨K,h⟩:=h;simp only[yc]at K;obtain rfl:=nb.1 K.1;have J:=nb.1 K.2;split at h
      ·rename_i z O;obtain⟨rfl,rfl⟩:=oH (F:=den) O;simp only[real_guard]at h;rw[bZ]at h;refine⟨_,h.2,?_⟩;obtain⟨rfl,_⟩:=aO.1 hi;have hd':U.down.row= .ints kd xs:=hd;exact N5 V M.n W hd' h.1
      ·cases h
     ·cases h
    |false=>
     rw[hi]at h;simp only[yh]at h;rw[bZ]at h;obtain⟨K,h⟩:=h;have K:=nl.1 K;rw[KRow.down_sl hi]at hd;split at h
     ·rename_i Z hT';obtain⟨y,β',l,h,hpv⟩:=Hd M hT' h;cases hmb:eC b l with
      |true=>rw[hmb]at h;cases h
      |false=>
       rw[hmb]at h;simp only[yh]at h;have fin: ∀{p:PV} {z:den T},(xs.map (cR ag T))[i]?=some p->p.cells.length=T.size->cR ag T z=(bif Nat.beq Y.n T.size&&Nat.beq c 0 then cR Y.ag Z y else .agg (p5 p.cells c (cR Y.ag Z y).cells))->
         k ⟨.lit undef,b::l,nP mem l++ [(b,⟨U.gen,U.frz,.ts (β||β') ag T (xs.set i z)⟩)],[]⟩=some r->∃out,k out=some r/\jV P t (aB mem) (KV.ptr b g i c).down x.down=some out.down:=by
        intro p z hp hpl O hk;refine⟨_,hk,?_⟩;simp only[KV.down,jV,V,yb,M.n];rw[eK];refine⟨W,?_⟩;rw[hd];simp only[hp,hpv,yb,eK,yc];refine⟨⟨⟨nl.2 K,nb.2 hpl⟩,by rw[hmb];rfl⟩,?_⟩;rw[<-O];refine congrArg some ?_;simp only[bC.down,ye4,vR,yg2,yf4];simp[KV.down,dE.down,KRow.down_sl hi,aB,List.map_set]
       cases H:Nat.beq c 0&&Nat.beq Y.n T.size with
       |true=>
        rw[H]at h;simp only[yg]at h;split at h
        ·rename_i z O;rw[bZ]at O;obtain⟨hag,O⟩:=O;have hag:=KO.1 hag;obtain⟨rfl,rfl⟩:=oH (F:=den) O;simp only[real_guard]at h;rw[bZ]at h;have hlt:=nl.1 h.1;have hx:(xs.map (cR ag Z))[i]?=some (cR ag Z xs[i]):=by rw[yg1,yf (by omega)];rfl
         refine fin hx (by rw[cG,bV]) ?_ h.2;rw[Bool.and_comm,H,hag];rfl
        ·cases h
       |false=>
        rw[H]at h;simp only[yh,real_getN]at h;rw[FJ]at h;obtain⟨p,hp,h⟩:=h;obtain⟨z,_,_,h,O⟩:=mS (dH.setRow c (dH.of false Z y) (dH.of false T p)) h;refine fin (p:=cR ag T p) (by rw[yg1,hp];rfl) (by rw[cG,bV]) ?_ h;rw[Bool.and_comm,H];simp only[yh,cG];rw[<-O];have hsz:ag=true\/2≤T.size:=by
         cases ag with
         |true=>exact .inl rfl
         |false=>
          right;have h1:=Ty.size_pos (T:=T);have h2:=(M.ty Z hT').2.1;have h3:=Ty.size_pos (T:=Z);rcases yl2 T.size 2 with hlt|hge
          ·exfalso;have hc0:c=0:=by omega
           have J:Y.n=T.size:=by omega
           rw[hc0,J]at H;simp at H
          ·exact hge
        exact kG (hsz.imp id λh=>by rw[bV];exact h)
     ·cases h
   ·cases h
  ·cases h
 ·cases h
end
end Go.Ab
