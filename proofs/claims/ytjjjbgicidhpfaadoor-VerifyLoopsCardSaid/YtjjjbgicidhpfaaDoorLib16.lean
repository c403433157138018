import Derived.Test.YtjjjbgicidhpfaaDoorLib15
set_option linter.unusedVariables false
set_option linter.unusedSectionVars false
set_option linter.unusedSimpArgs false
namespace Go.Ab
variable [b3]
section
variable {P:Program} {R:Type} {r:R} {mem:aE} {tab:TypeId->Option TI}
theorem bT.under_sl{t:TypeId}{J:TI}{H:TypeId}(h:bT P t J)(K:J.tk= .sl H):P.underlying t=some (.slice H):=by
 have:=h.tk;unfold m9 at this;rw[K]at this;cases I:P.underlying t with
 |none=>rw[I]at this;simp at this
 |some d=>rw[I]at this;cases d<;>simp_all[nb]
theorem bT.under_arr{t:TypeId}{H:TI}{n:Nat}{e:TypeId}(h:bT P t H)(J:H.tk= .arr n e):P.underlying t=some (.array n e):=by
 have:=h.tk;unfold m9 at this;rw[J]at this;cases I:P.underlying t with
 |none=>rw[I]at this;simp at this
 |some d=>rw[I]at this;cases d<;>simp_all[nb]
theorem bT.under_str{t:TypeId}{I:TI}(h:bT P t I)(J:I.tk= .str):P.underlying t=some .string:=by
 have:=h.tk;unfold m9 at this;rw[J]at this;cases H:P.underlying t with
 |none=>rw[H]at this;simp at this
 |some d=>rw[H]at this;cases d<;>simp_all
theorem bT.under_int{t:TypeId}{I:TI}{k:IntKind}(h:bT P t I)(J:I.tk= .int k):P.underlying t=some (.int k):=by
 have:=h.tk;unfold m9 at this;rw[J]at this;cases H:P.underlying t with
 |none=>rw[H]at this;simp at this
 |some d=>rw[H]at this;cases d<;>simp_all[qK]
theorem bT.under_st{t:TypeId}{I:TI}{fs:List (Nat×Nat×TypeId)}(h:bT P t I)(J:I.tk= .st fs): ∃l,P.underlying t=some (.struct l)/\Bt P fs l.toList=true:=by
 have:=h.tk;unfold m9 at this;rw[J]at this;cases H:P.underlying t with
 |none=>rw[H]at this;simp at this
 |some d=>rw[H]at this;cases d<;>simp_all
theorem qW{β ag:Bool}{T:Ty}{xs:List (den T)}(h:aY ag T=false):(KV.tsl β ag T xs).down= .imm β (.sl T.size (xs.map (cF ag T))):=by simp only[KV.down,bU h]
theorem NE{α β:Type}(f:α->β)(xs:List α)(i:Int):aV (xs.map f) i=(aV xs i).map f:=by
 unfold aV;cases decide (0≤i)<;>simp
theorem Ku{t H:TypeId}{m:aK}{β:Bool}{I:IntKind}{xs:List Int}{i v:Int}(K:P.underlying t=some (.slice H))(hn:gW P H=some 1)(J:aV xs i=some v):
  gG P t m (.imm β (.ints I xs)) i=some {v:= .el β (.lit (.int I v)) 0}:=by simp[gG,K,hn,J,guardB]
theorem KB{t H:TypeId}{m:aK}{β:Bool}{M:IntKind}{xs:List Int}{I J K:Option Int}{b:Nat×Nat}(O:P.underlying t=some (.slice H))(hn:gW P H=some 1)(N:fQ xs.length I J K=some b):
  fA P t m (.imm β (.ints M xs)) I J K=some {v:= .imm β (.ints M ((xs.take b.2).drop b.1))}:=by simp[fA,O,hn,N,guardB]
theorem KK(ht:bL P tab){t:TypeId}{x:KV}{i:Int}{k:a9->Option R}(h:KP (aQ R) tab t mem x i k=some r): ∃out,k out=some r/\gG P t (aB mem) x.down i=some out.down:=by
 unfold KP at h;split at h
 ·rename_i ti O;have M:=bT.of (ht _ _ O);split at h
  ·rename_i et W;have K:=M.under_sl W;split at h
   ·rename_i Z I;have H:=bT.of (ht _ _ I);split at h
    ·rename_i β ag T xs;rw[bP]at h;obtain⟨hn,h⟩:=h;have hn:=nb.1 hn;simp only[real_get]at h;rw[Cy]at h;obtain⟨v,hv,h⟩:=h;refine⟨_,h,?_⟩;cases Y:aY ag T with
     |true=>
      obtain⟨rfl,kk,rfl⟩:=aN.1 Y;have U:Z.n=1:=hn;show gG P t (aB mem) (.imm β (.ints kk xs)) i=_;have V:aV (xs:List Int) i=some v:=hv;exact Ku K (by rw[H.n,U]) V
     |false=>
      rw[qW Y];simp only[gG,K,H.n,ye,dS,hn,NE,hv,yh];exact⟨nb.2 rfl,rfl⟩
    ·rename_i b g o n;obtain⟨N,J,h⟩:=bZ h;rw[bP]at h;obtain⟨hn,h⟩:=h;simp only[real_guard]at h;rw[bP]at h;refine⟨_,h.2,?_⟩;simp only[gG,KV.down,K,H.n,ye,J,show N.down.row=N.row.down from rfl,vN,dS,hn,h.1,yb3];exact⟨by simp,rfl⟩
    ·rename_i b g;obtain⟨N,J,h⟩:=bZ h;rw[bP]at h;obtain⟨hn,h⟩:=h;simp only[real_guard]at h;rw[bP]at h;refine⟨_,h.2,?_⟩;simp only[gG,KV.down,K,H.n,ye,J,show N.down.row=N.row.down from rfl,vN,mS,dS,hn,h.1,yb3];exact⟨by simp,rfl⟩
    ·cases h
   ·cases h
  ·rename_i n e W;have K:=M.under_arr W;split at h
   ·rename_i Z I;have H:=bT.of (ht _ _ I);split at h
    ·rename_i b g j c;simp only[real_guard]at h;rw[bP]at h;refine⟨_,h.2,?_⟩;simp only[gG,KV.down,K,H.n,ye,dS];exact⟨h.1,rfl⟩
    ·cases h
   ·cases h
  ·cases h
 ·cases h
theorem JH(ht:bL P tab){t:TypeId}{x:KV}{lo W mx:Option Int}{k:a9->Option R}(h:JW (aQ R) tab t mem x lo W mx k=some r):
  ∃out,k out=some r/\fA P t (aB mem) x.down lo W mx=some out.down:=by
 unfold JW at h;split at h
 ·rename_i ti hti;have M:=bT.of (ht _ _ hti);split at h
  ·rename_i Y;have J:=M.under_str Y;split at h
   ·rename_i s;rw[bP]at h;obtain⟨hm,h⟩:=h;obtain⟨b,hb,h⟩:=eR h;exact⟨_,h,by simp only[fA,KV.down,J,dS,hm,hb,yh];exact⟨trivial,rfl⟩⟩
   ·cases h
  ·rename_i et Y;have J:=M.under_sl Y;split at h
   ·rename_i te N;have H:=bT.of (ht _ _ N);split at h
    ·rename_i β ag T xs;rw[bP]at h;obtain⟨hn,h⟩:=h;have hn:=nb.1 hn;obtain⟨b,hb,h⟩:=eR h;refine⟨_,h,?_⟩;cases W:aY ag T with
     |true=>
      obtain⟨rfl,kk,rfl⟩:=aN.1 W;have U:te.n=1:=hn;show fA P t (aB mem) (.imm β (.ints kk xs)) lo _ mx=_;have hb':fQ (xs:List Int).length lo _ mx=some b:=hb;exact KB J (by rw[H.n,U]) hb'
     |false=>
      rw[qW W];simp only[fA,J,H.n,ye,dS,hn,ye1,hb,yh];exact⟨nb.2 rfl,by simp[a9.down,fK,qW W,aB,yv2,yk3]⟩
    ·rename_i b g o n;obtain⟨K,I,h⟩:=bZ h;rw[bP]at h;obtain⟨hn,h⟩:=h;obtain⟨q,V,h⟩:=eR h;refine⟨_,h,?_⟩;simp only[fA,KV.down,J,H.n,ye,I,show K.down.row=K.row.down from rfl,vN,dS,hn,V,yh];exact⟨trivial,rfl⟩
    ·rename_i b g;obtain⟨K,I,h⟩:=bZ h;rw[bP]at h;obtain⟨hn,h⟩:=h;obtain⟨q,V,h⟩:=eR h;refine⟨_,h,?_⟩;simp only[fA,KV.down,J,H.n,ye,I,show K.down.row=K.row.down from rfl,vN,mS,dS,hn,V,yh];exact⟨trivial,rfl⟩
    ·obtain⟨q,V,h⟩:=eR h;refine⟨_,h,?_⟩;simp only[fA,KV.down,J,H.n,ye,V,yh];rfl
    ·cases h
   ·cases h
  ·rename_i n e Y;have J:=M.under_arr Y;split at h
   ·rename_i te N;have H:=bT.of (ht _ _ N);split at h
    ·rename_i b g i c;rw[bP]at h;obtain⟨hg,h⟩:=h;simp only[yb]at hg;obtain rfl:=nb.1 hg.1;have U:=nb.1 hg.2;obtain⟨K,I,h⟩:=bZ h;split at h
     ·rename_i e' cs Z;rw[bP]at h;obtain⟨O,h⟩:=h;simp only[yb]at O;obtain rfl:=nb.1 O.1;obtain⟨q,V,h⟩:=eR h;refine⟨_,h,?_⟩;have hd:K.down.row= .cells 1 (KV.downs cs):=by rw[show K.down.row=K.row.down from rfl,Z];rfl
      simp only[fA,KV.down,J,H.n,ye,U,dS,I,hd,aJ,O.2,V,yh];exact⟨rfl,trivial,rfl⟩
     ·cases h
    ·cases h
   ·cases h
  ·cases h
 ·cases h
theorem sP(cs:List KV)(i:Nat)(v:KV):KV.downs (cs.set i v)=(KV.downs cs).set i v.down:=by simp[cC,List.map_set]
theorem rX: ∀(vs:List KV) (cs:List KV) (i:Nat),KV.downs (cL cs i vs)=setCells (KV.downs cs) i (KV.downs vs)
 | [],cs,i=>rfl
 |v::vs,cs,i=>by simp only[cL,KV.downs,setCells,rX vs,dE,sP]
def cV(β:Bool)(cs:List KV)(qs:List PV):Prop:=cs.length=qs.length/\∀(j:Nat) (v:KV),cs[j]?=some v->∃q,qs[j]?=some q/\jG β v q
theorem cV.of(β:Bool)(T:Ty)(x:den T):cV β (cellsOf β T x) (aO T x):=⟨by rw[iZ.1,bN],iZ.2⟩
theorem cV.set{β:Bool}{cs:List KV}{qs:List PV}(h:cV β cs qs){v:KV}{q:PV}(M:jG β v q)(i:Nat):cV β (cs.set i v) (qs.set i q):=by
 refine⟨by simp[h.1],λj w H=>?_⟩;by_cases e:j=i
 ·subst e;have I:j<cs.length:=by have:=(yd.1 H).1;simpa using this
  rw[yw I]at H;obtain rfl:=ya H;exact⟨q,yw (by rw[<-h.1];exact I),M⟩
 ·rw[yp (λx=>e x.symm)]at H;obtain⟨p,K,J⟩:=h.2 j w H;exact⟨p,by rw[yp (λx=>e x.symm)];exact K,J⟩
theorem cV.setRow{β:Bool}: ∀{vs:List KV} {ps:List PV} {cs:List KV} {qs:List PV} (i:Nat),cV β vs ps->cV β cs qs->cV β (cL cs i vs) (nG qs i ps)
 | [],[],cs,qs,i,_,h=>h
 | [],p::ps,cs,qs,i,H,h=>by cases H.1
 |v::vs,[],cs,qs,i,H,h=>by cases H.1
 |v::vs,p::ps,cs,qs,i,H,h=>by
  obtain⟨q,I,J⟩:=H.2 0 v rfl;obtain rfl:=ya I;simp only[cL,nG,dE];exact cV.setRow (i+1) ⟨by simpa using H.1,λj w K=>by simpa using H.2 (j+1) w (by simpa using K)⟩ (h.set J i)
theorem cV.take{β:Bool}{cs:List KV}{qs:List PV}(h:cV β cs qs)(n:Nat):cV β (cs.take n) (qs.take n):=by
 refine⟨by simp[h.1],λj v H=>?_⟩;rw[yi1]at H;split at H
 ·rename_i I;obtain⟨q,J,K⟩:=h.2 j v H;exact⟨q,by rw[yi1,if_pos I];exact J,K⟩
 ·cases H
theorem cV.drop{β:Bool}{cs:List KV}{qs:List PV}(h:cV β cs qs)(n:Nat):cV β (cs.drop n) (qs.drop n):=by
 refine⟨by simp[h.1],λj v H=>?_⟩;rw[yz]at H⊢
 exact h.2 _ v H
theorem j6: ∀{T:Ty} {cs:List KV} {qs:List PV} {K:den T->Bool->List Nat->Option R},cV false cs qs->eF (aQ R) mem T cs K=some r->∃z β l,K z β l=some r/\aO T z=qs
 | .int k,cs,qs,K,H,h=>by
  simp only[eF]at h;split at h
  ·rename_i k' x;rw[bP]at h;obtain⟨q,J,I⟩:=H.2 0 _ rfl;obtain⟨N,rfl⟩:=ye2.1 H.1.symm;obtain rfl:=ya J;refine⟨x,_,_,h.2,?_⟩;obtain rfl:=qK.1 h.1;rcases I with ⟨_,_,e,rfl⟩|⟨_,e,_⟩|⟨_,e,_⟩|⟨_,_,_,e,_⟩<;>cases e
   rfl
  ·cases h
 | .bool,cs,qs,K,H,h=>by
  simp only[eF]at h;split at h
  ·rename_i x;obtain⟨q,J,I⟩:=H.2 0 _ rfl;obtain⟨N,rfl⟩:=ye2.1 H.1.symm;obtain rfl:=ya J;refine⟨x,_,_,h,?_⟩;rcases I with ⟨_,_,e,_⟩|⟨_,e,rfl⟩|⟨_,e,_⟩|⟨_,_,_,e,_⟩<;>cases e
   rfl
  ·cases h
 | .str,cs,qs,K,H,h=>by
  simp only[eF]at h;split at h
  ·rename_i x;obtain⟨q,J,I⟩:=H.2 0 _ rfl;obtain⟨N,rfl⟩:=ye2.1 H.1.symm;obtain rfl:=ya J;refine⟨x,_,_,h,?_⟩;rcases I with ⟨_,_,e,_⟩|⟨_,e,_⟩|⟨_,e,rfl⟩|⟨_,_,_,e,_⟩<;>cases e
   rfl
  ·cases h
 | .sl ag T,cs,qs,K,H,h=>by
  simp only[eF]at h;split at h
  ·rename_i β U T' xs;rw[bP]at h;obtain⟨O,h⟩:=h;obtain rfl:=HS.1 O;split at h
   ·rename_i ys M;obtain⟨rfl,rfl⟩:=dG M;obtain⟨q,J,I⟩:=H.2 0 _ rfl;obtain⟨N,rfl⟩:=ye2.1 H.1.symm;obtain rfl:=ya J;refine⟨xs,_,_,h,?_⟩;rcases I with ⟨_,_,e,_⟩|⟨_,e,_⟩|⟨_,e,_⟩|⟨_,_,_,e,rfl⟩<;>cases e
    rfl
   ·cases h
  ·obtain⟨q,J,I⟩:=H.2 0 _ rfl;rcases I with ⟨_,_,e,_⟩|⟨_,e,_⟩|⟨_,e,_⟩|⟨_,_,_,e,_⟩<;>cases e
  ·obtain⟨q,J,I⟩:=H.2 0 _ rfl;rcases I with ⟨_,_,e,_⟩|⟨_,e,_⟩|⟨_,e,_⟩|⟨_,_,_,e,_⟩<;>cases e
  ·obtain⟨q,J,I⟩:=H.2 0 _ rfl;rcases I with ⟨_,_,e,_⟩|⟨_,e,_⟩|⟨_,e,_⟩|⟨_,_,_,e,_⟩<;>cases e
  ·cases h
 | .cons a b,cs,qs,K,H,h=>by
  simp only[eF]at h;obtain⟨x,_,_,h,V⟩:=j6 (H.take a.size) h;obtain⟨y,β,l,h,M⟩:=j6 (H.drop a.size) h;exact⟨(x,y),_,_,h,by simp only[aO,V,M,List.take_append_drop]⟩
theorem Jo(r:KRow):r.down.okShut=AD r:=by
 cases r with
 |ts β ag T xs=>
  refine KRow.tsCases (P:=fun β ag T xs=>(KRow.ts β ag T xs).down.okShut=true) (fun β k xs=>rfl) (fun β ag T xs h=>?_) β ag T xs;rw[KRow.down_sl h];rfl
 |cells=>rfl
 |os T xs hs=>cases hs<;>rfl
theorem Mt(r:KRow):(KU r).down=r.down.shut:=by
 cases r with
 |ts β ag T xs=>
  refine KRow.tsCases (P:=fun β ag T xs=>(KRow.ts β ag T xs).down=(KRow.ts β ag T xs).down.shut) (fun β k xs=>rfl) (fun β ag T xs h=>?_) β ag T xs;rw[KRow.down_sl h];rfl
 |cells=>rfl
 |os T xs hs=>exact KRow.down_sl (FS T)
theorem sL(mem:aE): ∀(l:List Nat),(kW mem l).map (λq=>(q.1,q.2.down))=bV (aB mem) l
 | []=>rfl
 |b::l=>by
  unfold kW bV;rw[a7,d6];have H:=sL mem l;cases hb:mem[b]? with
  |none=>simpa using H
  |some x=>
   cases x with
   |none=>simpa using H
   |some x=>
    simp only[yh];rw[show x.down.row=x.row.down from rfl,Jo];cases hs:AD x.row with
    |true=>
     simp only[yl,yt1,H];simp only[cS.down,Mt]
    |false=>simpa using H
theorem iL{ag:Bool}{cs:List PV}(h:ag=true\/2≤cs.length):gK ag cs= .agg cs:=by
 unfold gK;split
 ·rcases h with h|h
  ·cases h
  ·simp at h
 ·rfl
theorem Kd{t:TypeId}{m:aK}{b g i n:Nat}{H:bG}{I:IntKind}{xs:List Int}{v:Int}(K:box? m b g=some H)(hn:gW P t=some n)(J:(!H.frz&&Nat.beq (AV.lit (.int I v)).cells.length n)=true)(hr:H.row= .ints I xs)
  (M:Nat.ble (i+1) xs.length=true):gZ P t m (.ptr b g i 0) (.lit (.int I v))=some {v:= .lit undef,rd:= [b],wr:= [(b,{gen:=H.gen,frz:=H.frz,row:= .ints I (xs.set i v)})]}:=by
 simp only[gZ,K,hn,ye];rw[dS];refine⟨J,?_⟩;rw[hr];simp only[dS,yb];exact⟨⟨⟨qK.2 rfl,rfl⟩,M⟩,trivial⟩
theorem KF(ht:bL P tab){t:TypeId}{a x:KV}{k:a9->Option R}(h:Kv (aQ R) tab t mem a x k=some r): ∃out,k out=some r/\gZ P t (aB mem) a.down x.down=some out.down:=by
 unfold Kv at h;split at h
 ·rename_i ti hti;have K:=bT.of (ht _ _ hti);split at h
  ·rename_i b g i c;have h':=bZ h;clear h;obtain⟨O,V,h⟩:=h';rw[bP]at h;obtain⟨hg,h⟩:=h;simp only[yb]at hg;have hlen:=nb.1 hg.2;have U:(!O.down.frz&&Nat.beq x.down.cells.length ti.n)=true:=by
    rw[dU,aJ,hlen];simpa[cS.down]using hg.1
   split at h
   ·rename_i e cs M;have hd:O.down.row= .cells e (KV.downs cs):=by rw[show O.down.row=O.row.down from rfl,M];rfl
    cases J:Nat.beq ti.n 1 with
    |true=>
     rw[J]at h;simp only[yl]at h;split at h
     ·rename_i v hv;rw[bP]at h;obtain⟨h1,h⟩:=h;obtain⟨_,hlt,h⟩:=BB h;refine⟨_,h,?_⟩;have J:=nb.1 J;simp only[KV.down,gZ,V,ye,K.n];rw[dS];refine⟨U,?_⟩;rw[hd];simp only[dS,dU,hv,aJ,yb];refine⟨⟨nl.2 (by omega),by simp[KV.downs,iD,oI h1]⟩,?_⟩;simp[a9.down,KV.down,KV.downs,cS.down,KRow.down,setCells,sP,aB]
     ·cases h
    |false=>
     rw[J]at h;simp only[yj]at h;rw[bP]at h;obtain⟨h1,h⟩:=h;simp only[yb]at h1;refine⟨_,h,?_⟩;simp only[KV.down,gZ,V,ye,K.n];rw[dS];refine⟨U,?_⟩;rw[hd];simp only[dS,dU,aJ,yb];refine⟨⟨h1.1,eG h1.2⟩,?_⟩;simp[a9.down,KV.down,cS.down,KRow.down,rX,aB]
   ·rename_i β ag T xs M;have hd:O.down.row=(KRow.ts β ag T xs).down:=by rw[show O.down.row=O.row.down from rfl,M]
    cases hi:aY ag T with
    |true=>
     rw[hi]at h;simp only[yl]at h;split at h
     ·rename_i kd v;rw[bP]at h;obtain⟨I,h⟩:=h;simp only[yb]at I;obtain rfl:=nb.1 I.1;have J:=nb.1 I.2;split at h
      ·rename_i z N;obtain⟨rfl,rfl⟩:=lU (F:=den) N;simp only[real_guard]at h;rw[bP]at h;refine⟨_,h.2,?_⟩;obtain⟨rfl,_⟩:=aN.1 hi;have hd':O.down.row= .ints kd xs:=hd;exact Kd V K.n U hd' h.1
      ·cases h
     ·cases h
    |false=>
     rw[hi]at h;simp only[yj]at h;rw[bP]at h;obtain⟨I,h⟩:=h;have I:=nl.1 I;rw[KRow.down_sl hi]at hd;split at h
     ·rename_i Z hT';obtain⟨y,β',l,h,hpv⟩:=E3 K hT' h;cases W:dL b l with
      |true=>rw[W]at h;cases h
      |false=>
       rw[W]at h;simp only[yj]at h;have fin: ∀{p:PV} {z:den T},(xs.map (cF ag T))[i]?=some p->p.cells.length=T.size->cF ag T z=(bif Nat.beq ti.n T.size&&Nat.beq c 0 then cF ti.ag Z y else .agg (nG p.cells c (cF ti.ag Z y).cells))->
         k ⟨.lit undef,b::l,kW mem l++ [(b,⟨O.gen,O.frz,.ts (β||β') ag T (xs.set i z)⟩)],[]⟩=some r->∃out,k out=some r/\gZ P t (aB mem) (KV.ptr b g i c).down x.down=some out.down:=by
        intro p z hp hpl N hk;refine⟨_,hk,?_⟩;simp only[KV.down,gZ,V,ye,K.n];rw[dS];refine⟨U,?_⟩;rw[hd];simp only[hp,hpv,ye,dS,yb];refine⟨⟨⟨nl.2 I,nb.2 hpl⟩,by rw[W];rfl⟩,?_⟩;rw[<-N];refine congrArg some ?_;simp only[a9.down,yg3,sL,yt1,yi3];simp[KV.down,cS.down,KRow.down_sl hi,aB,List.map_set]
       cases H:Nat.beq c 0&&Nat.beq ti.n T.size with
       |true=>
        rw[H]at h;simp only[yl]at h;split at h
        ·rename_i z N;rw[bP]at N;obtain⟨Y,N⟩:=N;have Y:=HS.1 Y;obtain⟨rfl,rfl⟩:=lU (F:=den) N;simp only[real_guard]at h;rw[bP]at h;have hlt:=nl.1 h.1;have hx:(xs.map (cF ag Z))[i]?=some (cF ag Z xs[i]):=by rw[yc1,yf (by omega)];rfl
         refine fin hx (by rw[b4,bN]) ?_ h.2;rw[Bool.and_comm,H,Y];rfl
        ·cases h
       |false=>
        rw[H]at h;simp only[yj,real_getN]at h;rw[Cy]at h;obtain⟨p,hp,h⟩:=h;obtain⟨z,_,_,h,N⟩:=j6 (cV.setRow c (cV.of false Z y) (cV.of false T p)) h;refine fin (p:=cF ag T p) (by rw[yc1,hp];rfl) (by rw[b4,bN]) ?_ h;rw[Bool.and_comm,H];simp only[yj,b4];rw[<-N];have hsz:ag=true\/2≤T.size:=by
         cases ag with
         |true=>exact .inl rfl
         |false=>
          right;have h1:=Ty.size_pos (T:=T);have h2:=(K.ty Z hT').2.1;have h3:=Ty.size_pos (T:=Z);rcases yd2 T.size 2 with hlt|hge
          ·exfalso;have hc0:c=0:=by omega
           have J:ti.n=T.size:=by omega
           rw[hc0,J]at H;simp at H
          ·exact hge
        exact iL (hsz.imp id λh=>by rw[bN];exact h)
     ·cases h
   ·cases h
  ·cases h
 ·cases h
end
end Go.Ab
