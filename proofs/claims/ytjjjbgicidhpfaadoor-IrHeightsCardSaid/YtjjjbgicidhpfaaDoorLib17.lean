import Derived.Test.YtjjjbgicidhpfaaDoorLib16
set_option linter.unusedVariables false
set_option linter.unusedSectionVars false
set_option linter.unusedSimpArgs false
namespace Go.Ab
variable [cS]
section
variable {P:Program} {R:Type} {r:R} {mem:aH} {tab:TypeId->Option TI}
theorem cH.under_sl{t:TypeId}{K:TI}{H:TypeId}(h:cH P t K)(M:K.tk= .sl H):P.underlying t=some (.slice H):=by
 have:=h.tk;unfold qU at this;rw[M]at this;cases J:P.underlying t with
 |none=>rw[J]at this;simp at this
 |some d=>rw[J]at this;cases d<;>simp_all[nb]
theorem cH.under_arr{t:TypeId}{J:TI}{n:Nat}{e:TypeId}(h:cH P t J)(K:J.tk= .arr n e):P.underlying t=some (.array n e):=by
 have:=h.tk;unfold qU at this;rw[K]at this;cases H:P.underlying t with
 |none=>rw[H]at this;simp at this
 |some d=>rw[H]at this;cases d<;>simp_all[nb]
theorem cH.under_str{t:TypeId}{J:TI}(h:cH P t J)(K:J.tk= .str):P.underlying t=some .string:=by
 have:=h.tk;unfold qU at this;rw[K]at this;cases H:P.underlying t with
 |none=>rw[H]at this;simp at this
 |some d=>rw[H]at this;cases d<;>simp_all
theorem cH.under_int{t:TypeId}{J:TI}{k:IntKind}(h:cH P t J)(K:J.tk= .int k):P.underlying t=some (.int k):=by
 have:=h.tk;unfold qU at this;rw[K]at this;cases H:P.underlying t with
 |none=>rw[H]at this;simp at this
 |some d=>rw[H]at this;cases d<;>simp_all[yR]
theorem cH.under_st{t:TypeId}{J:TI}{fs:List (Nat×Nat×TypeId)}(h:cH P t J)(K:J.tk= .st fs): ∃l,P.underlying t=some (.struct l)/\Gm P fs l.toList=true:=by
 have:=h.tk;unfold qU at this;rw[K]at this;cases H:P.underlying t with
 |none=>rw[H]at this;simp at this
 |some d=>rw[H]at this;cases d<;>simp_all
theorem AB{β ag:Bool}{T:Ty}{xs:List (den T)}(h:bD ag T=false):(KV.tsl β ag T xs).down= .imm β (.sl T.size (xs.map (c9 ag T))):=by simp only[KV.down,cO h]
theorem Uw{α β:Type}(f:α->β)(xs:List α)(i:Int):aF (xs.map f) i=(aF xs i).map f:=by
 unfold aF;cases decide (0≤i)<;>simp
theorem Pg{t H:TypeId}{m:aO}{β:Bool}{J:IntKind}{xs:List Int}{i v:Int}(K:P.underlying t=some (.slice H))(hn:k8 P H=some 1)(M:aF xs i=some v):
  kG P t m (.imm β (.ints J xs)) i=some {v:= .el β (.lit (.int J v)) 0}:=by simp[kG,K,hn,M,guardB]
theorem Pf{t H:TypeId}{m:aO}{β:Bool}{K:IntKind}{xs:List Int}{J M N:Option Int}{b:Nat×Nat}(O:P.underlying t=some (.slice H))(hn:k8 P H=some 1)(U:jJ xs.length J M N=some b):
  iN P t m (.imm β (.ints K xs)) J M N=some {v:= .imm β (.ints K ((xs.take b.2).drop b.1))}:=by simp[iN,O,hn,U,guardB]
theorem PU(ht:b9 P tab){t:TypeId}{x:KV}{i:Int}{k:bK->Option R}(h:PT (aZ R) tab t mem x i k=some r): ∃out,k out=some r/\kG P t (aD mem) x.down i=some out.down:=by
 unfold PT at h;split at h
 ·rename_i ti W;have N:=cH.of (ht _ _ W);split at h
  ·rename_i et Y;have M:=N.under_sl Y;split at h
   ·rename_i te J;have H:=cH.of (ht _ _ J);split at h
    ·rename_i β ag T xs;rw[cJ]at h;obtain⟨hn,h⟩:=h;have hn:=nb.1 hn;simp only[real_get]at h;rw[Hx]at h;obtain⟨v,hv,h⟩:=h;refine⟨_,h,?_⟩;cases Z:bD ag T with
     |true=>
      obtain⟨rfl,kk,rfl⟩:=aS.1 Z;have U:te.n=1:=hn;show kG P t (aD mem) (.imm β (.ints kk xs)) i=_;have V:aF (xs:List Int) i=some v:=hv;exact Pg M (by rw[H.n,U]) V
     |false=>
      rw[AB Z];simp only[kG,M,H.n,ya,e9,hn,Uw,hv,yl];exact⟨nb.2 rfl,rfl⟩
    ·rename_i b g o n;obtain⟨O,K,h⟩:=cR h;rw[cJ]at h;obtain⟨hn,h⟩:=h;simp only[real_guard]at h;rw[cJ]at h;refine⟨_,h.2,?_⟩;simp only[kG,KV.down,M,H.n,ya,K,show O.down.row=O.row.down from rfl,Bp,e9,hn,h.1,yq1];exact⟨by simp,rfl⟩
    ·rename_i b g;obtain⟨O,K,h⟩:=cR h;rw[cJ]at h;obtain⟨hn,h⟩:=h;simp only[real_guard]at h;rw[cJ]at h;refine⟨_,h.2,?_⟩;simp only[kG,KV.down,M,H.n,ya,K,show O.down.row=O.row.down from rfl,Bp,rB,e9,hn,h.1,yq1];exact⟨by simp,rfl⟩
    ·cases h
   ·cases h
  ·rename_i n e Y;have M:=N.under_arr Y;split at h
   ·rename_i te J;have H:=cH.of (ht _ _ J);split at h
    ·rename_i b g j c;simp only[real_guard]at h;rw[cJ]at h;refine⟨_,h.2,?_⟩;simp only[kG,KV.down,M,H.n,ya,e9];exact⟨h.1,rfl⟩
    ·cases h
   ·cases h
  ·cases h
 ·cases h
theorem QF(ht:b9 P tab){t:TypeId}{x:KV}{lo Y mx:Option Int}{k:bK->Option R}(h:Qi (aZ R) tab t mem x lo Y mx k=some r):
  ∃out,k out=some r/\iN P t (aD mem) x.down lo Y mx=some out.down:=by
 unfold Qi at h;split at h
 ·rename_i ti hti;have V:=cH.of (ht _ _ hti);split at h
  ·rename_i hk;have K:=V.under_str hk;split at h
   ·rename_i s;rw[cJ]at h;obtain⟨hm,h⟩:=h;obtain⟨b,hb,h⟩:=gQ h;exact⟨_,h,by simp only[iN,KV.down,K,e9,hm,hb,yl];exact⟨trivial,rfl⟩⟩
   ·cases h
  ·rename_i et hk;have K:=V.under_sl hk;split at h
   ·rename_i te U;have H:=cH.of (ht _ _ U);split at h
    ·rename_i β ag T xs;rw[cJ]at h;obtain⟨hn,h⟩:=h;have hn:=nb.1 hn;obtain⟨b,hb,h⟩:=gQ h;refine⟨_,h,?_⟩;cases Y:bD ag T with
     |true=>
      obtain⟨rfl,kk,rfl⟩:=aS.1 Y;have N:te.n=1:=hn;show iN P t (aD mem) (.imm β (.ints kk xs)) lo _ mx=_;have hb':jJ (xs:List Int).length lo _ mx=some b:=hb;exact Pf K (by rw[H.n,N]) hb'
     |false=>
      rw[AB Y];simp only[iN,K,H.n,ya,e9,hn,ym1,hb,yl];exact⟨nb.2 rfl,by simp[bK.down,jB,AB Y,aD,yp3,yh4]⟩
    ·rename_i b g o n;obtain⟨M,J,h⟩:=cR h;rw[cJ]at h;obtain⟨hn,h⟩:=h;obtain⟨q,W,h⟩:=gQ h;refine⟨_,h,?_⟩;simp only[iN,KV.down,K,H.n,ya,J,show M.down.row=M.row.down from rfl,Bp,e9,hn,W,yl];exact⟨trivial,rfl⟩
    ·rename_i b g;obtain⟨M,J,h⟩:=cR h;rw[cJ]at h;obtain⟨hn,h⟩:=h;obtain⟨q,W,h⟩:=gQ h;refine⟨_,h,?_⟩;simp only[iN,KV.down,K,H.n,ya,J,show M.down.row=M.row.down from rfl,Bp,rB,e9,hn,W,yl];exact⟨trivial,rfl⟩
    ·obtain⟨q,W,h⟩:=gQ h;refine⟨_,h,?_⟩;simp only[iN,KV.down,K,H.n,ya,W,yl];rfl
    ·cases h
   ·cases h
  ·rename_i n e hk;have K:=V.under_arr hk;split at h
   ·rename_i te U;have H:=cH.of (ht _ _ U);split at h
    ·rename_i b g i c;rw[cJ]at h;obtain⟨hg,h⟩:=h;simp only[yc]at hg;obtain rfl:=nb.1 hg.1;have N:=nb.1 hg.2;obtain⟨M,J,h⟩:=cR h;split at h
     ·rename_i e' cs Z;rw[cJ]at h;obtain⟨O,h⟩:=h;simp only[yc]at O;obtain rfl:=nb.1 O.1;obtain⟨q,W,h⟩:=gQ h;refine⟨_,h,?_⟩;have hd:M.down.row= .cells 1 (KV.downs cs):=by rw[show M.down.row=M.row.down from rfl,Z];rfl
      simp only[iN,KV.down,K,H.n,ya,N,e9,J,hd,aN,O.2,W,yl];exact⟨rfl,trivial,rfl⟩
     ·cases h
    ·cases h
   ·cases h
  ·cases h
 ·cases h
theorem AM(cs:List KV)(i:Nat)(v:KV):KV.downs (cs.set i v)=(KV.downs cs).set i v.down:=by simp[dD,List.map_set]
theorem z4: ∀(vs:List KV) (cs:List KV) (i:Nat),KV.downs (dM cs i vs)=setCells (KV.downs cs) i (KV.downs vs)
 | [],cs,i=>rfl
 |v::vs,cs,i=>by simp only[dM,KV.downs,setCells,z4 vs,eS,AM]
def dZ(β:Bool)(cs:List KV)(qs:List PV):Prop:=cs.length=qs.length/\∀(j:Nat) (v:KV),cs[j]?=some v->∃q,qs[j]?=some q/\nA β v q
theorem dZ.of(β:Bool)(T:Ty)(x:den T):dZ β (cellsOf β T x) (aV T x):=⟨by rw[mL.1,cD],mL.2⟩
theorem dZ.set{β:Bool}{cs:List KV}{qs:List PV}(h:dZ β cs qs){v:KV}{q:PV}(M:nA β v q)(i:Nat):dZ β (cs.set i v) (qs.set i q):=by
 refine⟨by simp[h.1],λj w H=>?_⟩;by_cases e:j=i
 ·subst e;have J:j<cs.length:=by have:=(yd.1 H).1;simpa using this
  rw[yt J]at H;obtain rfl:=yb H;exact⟨q,yt (by rw[<-h.1];exact J),M⟩
 ·rw[yp (λx=>e x.symm)]at H;obtain⟨p,K,hc⟩:=h.2 j w H;exact⟨p,by rw[yp (λx=>e x.symm)];exact K,hc⟩
theorem dZ.setRow{β:Bool}: ∀{vs:List KV} {ps:List PV} {cs:List KV} {qs:List PV} (i:Nat),dZ β vs ps->dZ β cs qs->dZ β (dM cs i vs) (sA qs i ps)
 | [],[],cs,qs,i,_,h=>h
 | [],p::ps,cs,qs,i,H,h=>by cases H.1
 |v::vs,[],cs,qs,i,H,h=>by cases H.1
 |v::vs,p::ps,cs,qs,i,H,h=>by
  obtain⟨q,K,hc⟩:=H.2 0 v rfl;obtain rfl:=yb K;simp only[dM,sA,eS];exact dZ.setRow (i+1) ⟨by simpa using H.1,λj w J=>by simpa using H.2 (j+1) w (by simpa using J)⟩ (h.set hc i)
theorem dZ.take{β:Bool}{cs:List KV}{qs:List PV}(h:dZ β cs qs)(n:Nat):dZ β (cs.take n) (qs.take n):=by
 refine⟨by simp[h.1],λj v H=>?_⟩;rw[yy1]at H;split at H
 ·rename_i J;obtain⟨q,K,hc⟩:=h.2 j v H;exact⟨q,by rw[yy1,if_pos J];exact K,hc⟩
 ·cases H
theorem dZ.drop{β:Bool}{cs:List KV}{qs:List PV}(h:dZ β cs qs)(n:Nat):dZ β (cs.drop n) (qs.drop n):=by
 refine⟨by simp[h.1],λj v H=>?_⟩;rw[yg1]at H⊢
 exact h.2 _ v H
theorem oA: ∀{T:Ty} {cs:List KV} {qs:List PV} {K:den T->Bool->List Nat->Option R},dZ false cs qs->gG (aZ R) mem T cs K=some r->∃z β l,K z β l=some r/\aV T z=qs
 | .int k,cs,qs,K,hc,h=>by
  simp only[gG]at h;split at h
  ·rename_i k' x;rw[cJ]at h;obtain⟨q,J,H⟩:=hc.2 0 _ rfl;obtain⟨N,rfl⟩:=yw2.1 hc.1.symm;obtain rfl:=yb J;refine⟨x,_,_,h.2,?_⟩;obtain rfl:=yR.1 h.1;rcases H with ⟨_,_,e,rfl⟩|⟨_,e,_⟩|⟨_,e,_⟩|⟨_,_,_,e,_⟩<;>cases e
   rfl
  ·cases h
 | .bool,cs,qs,K,hc,h=>by
  simp only[gG]at h;split at h
  ·rename_i x;obtain⟨q,J,H⟩:=hc.2 0 _ rfl;obtain⟨N,rfl⟩:=yw2.1 hc.1.symm;obtain rfl:=yb J;refine⟨x,_,_,h,?_⟩;rcases H with ⟨_,_,e,_⟩|⟨_,e,rfl⟩|⟨_,e,_⟩|⟨_,_,_,e,_⟩<;>cases e
   rfl
  ·cases h
 | .str,cs,qs,K,hc,h=>by
  simp only[gG]at h;split at h
  ·rename_i x;obtain⟨q,J,H⟩:=hc.2 0 _ rfl;obtain⟨N,rfl⟩:=yw2.1 hc.1.symm;obtain rfl:=yb J;refine⟨x,_,_,h,?_⟩;rcases H with ⟨_,_,e,_⟩|⟨_,e,_⟩|⟨_,e,rfl⟩|⟨_,_,_,e,_⟩<;>cases e
   rfl
  ·cases h
 | .sl ag T,cs,qs,K,hc,h=>by
  simp only[gG]at h;split at h
  ·rename_i β U T' xs;rw[cJ]at h;obtain⟨V,h⟩:=h;obtain rfl:=MP.1 V;split at h
   ·rename_i ys M;obtain⟨rfl,rfl⟩:=eT M;obtain⟨q,J,H⟩:=hc.2 0 _ rfl;obtain⟨N,rfl⟩:=yw2.1 hc.1.symm;obtain rfl:=yb J;refine⟨xs,_,_,h,?_⟩;rcases H with ⟨_,_,e,_⟩|⟨_,e,_⟩|⟨_,e,_⟩|⟨_,_,_,e,rfl⟩<;>cases e
    rfl
   ·cases h
  ·obtain⟨q,J,H⟩:=hc.2 0 _ rfl;rcases H with ⟨_,_,e,_⟩|⟨_,e,_⟩|⟨_,e,_⟩|⟨_,_,_,e,_⟩<;>cases e
  ·obtain⟨q,J,H⟩:=hc.2 0 _ rfl;rcases H with ⟨_,_,e,_⟩|⟨_,e,_⟩|⟨_,e,_⟩|⟨_,_,_,e,_⟩<;>cases e
  ·obtain⟨q,J,H⟩:=hc.2 0 _ rfl;rcases H with ⟨_,_,e,_⟩|⟨_,e,_⟩|⟨_,e,_⟩|⟨_,_,_,e,_⟩<;>cases e
  ·cases h
 | .cons a b,cs,qs,K,hc,h=>by
  simp only[gG]at h;obtain⟨x,_,_,h,O⟩:=oA (hc.take a.size) h;obtain⟨y,β,l,h,M⟩:=oA (hc.drop a.size) h;exact⟨(x,y),_,_,h,by simp only[aV,O,M,List.take_append_drop]⟩
theorem NL(r:KRow):r.down.okShut=FQ r:=by
 cases r with
 |ts β ag T xs=>
  refine KRow.tsCases (P:=fun β ag T xs=>(KRow.ts β ag T xs).down.okShut=true) (fun β k xs=>rfl) (fun β ag T xs h=>?_) β ag T xs;rw[KRow.down_sl h];rfl
 |cells=>rfl
 |os T xs hs=>cases hs<;>rfl
theorem Ss(r:KRow):(Rt r).down=r.down.shut:=by
 cases r with
 |ts β ag T xs=>
  refine KRow.tsCases (P:=fun β ag T xs=>(KRow.ts β ag T xs).down=(KRow.ts β ag T xs).down.shut) (fun β k xs=>rfl) (fun β ag T xs h=>?_) β ag T xs;rw[KRow.down_sl h];rfl
 |cells=>rfl
 |os T xs hs=>exact KRow.down_sl (Lb T)
theorem zI(mem:aH): ∀(l:List Nat),(pN mem l).map (λq=>(q.1,q.2.down))=cM (aD mem) l
 | []=>rfl
 |b::l=>by
  unfold pN cM;rw[bH,fT];have H:=zI mem l;cases hb:mem[b]? with
  |none=>simpa using H
  |some x=>
   cases x with
   |none=>simpa using H
   |some x=>
    simp only[yl];rw[show x.down.row=x.row.down from rfl,NL];cases hs:FQ x.row with
    |true=>
     simp only[yh,yl2,H];simp only[dW.down,Ss]
    |false=>simpa using H
theorem mP{ag:Bool}{cs:List PV}(h:ag=true\/2≤cs.length):kN ag cs= .agg cs:=by
 unfold kN;split
 ·rcases h with h|h
  ·cases h
  ·simp at h
 ·rfl
theorem P9{t:TypeId}{m:aO}{b g i n:Nat}{H:bV}{J:IntKind}{xs:List Int}{v:Int}(K:box? m b g=some H)(hn:k8 P t=some n)(hf:(!H.frz&&Nat.beq (AV.lit (.int J v)).cells.length n)=true)(hr:H.row= .ints J xs)
  (M:Nat.ble (i+1) xs.length=true):lF P t m (.ptr b g i 0) (.lit (.int J v))=some {v:= .lit undef,rd:= [b],wr:= [(b,{gen:=H.gen,frz:=H.frz,row:= .ints J (xs.set i v)})]}:=by
 simp only[lF,K,hn,ya];rw[e9];refine⟨hf,?_⟩;rw[hr];simp only[e9,yc];exact⟨⟨⟨yR.2 rfl,rfl⟩,M⟩,trivial⟩
theorem PE(ht:b9 P tab){t:TypeId}{a x:KV}{k:bK->Option R}(h:P7 (aZ R) tab t mem a x k=some r): ∃out,k out=some r/\lF P t (aD mem) a.down x.down=some out.down:=by
 unfold P7 at h;split at h
 ·rename_i ti hti;have M:=cH.of (ht _ _ hti);split at h
  ·rename_i b g i c;have h':=cR h;clear h;obtain⟨U,W,h⟩:=h';rw[cJ]at h;obtain⟨hg,h⟩:=h;simp only[yc]at hg;have hlen:=nb.1 hg.2;have V:(!U.down.frz&&Nat.beq x.down.cells.length ti.n)=true:=by
    rw[fE,aN,hlen];simpa[dW.down]using hg.1
   split at h
   ·rename_i e cs N;have hd:U.down.row= .cells e (KV.downs cs):=by rw[show U.down.row=U.row.down from rfl,N];rfl
    cases J:Nat.beq ti.n 1 with
    |true=>
     rw[J]at h;simp only[yh]at h;split at h
     ·rename_i v hv;rw[cJ]at h;obtain⟨h1,h⟩:=h;obtain⟨_,hlt,h⟩:=Gt h;refine⟨_,h,?_⟩;have J:=nb.1 J;simp only[KV.down,lF,W,ya,M.n];rw[e9];refine⟨V,?_⟩;rw[hd];simp only[e9,fE,hv,aN,yc];refine⟨⟨nl.2 (by omega),by simp[KV.downs,lX,sN h1]⟩,?_⟩;simp[bK.down,KV.down,KV.downs,dW.down,KRow.down,setCells,AM,aD]
     ·cases h
    |false=>
     rw[J]at h;simp only[yg]at h;rw[cJ]at h;obtain⟨h1,h⟩:=h;simp only[yc]at h1;refine⟨_,h,?_⟩;simp only[KV.down,lF,W,ya,M.n];rw[e9];refine⟨V,?_⟩;rw[hd];simp only[e9,fE,aN,yc];refine⟨⟨h1.1,gC h1.2⟩,?_⟩;simp[bK.down,KV.down,dW.down,KRow.down,z4,aD]
   ·rename_i β ag T xs N;have hd:U.down.row=(KRow.ts β ag T xs).down:=by rw[show U.down.row=U.row.down from rfl,N]
    cases hi:bD ag T with
    |true=>
     rw[hi]at h;simp only[yh]at h;split at h
     ·rename_i kd v;rw[cJ]at h;obtain⟨K,h⟩:=h;simp only[yc]at K;obtain rfl:=nb.1 K.1;have J:=nb.1 K.2;split at h
      ·rename_i z O;obtain⟨rfl,rfl⟩:=p7 (F:=den) O;simp only[real_guard]at h;rw[cJ]at h;refine⟨_,h.2,?_⟩;obtain⟨rfl,_⟩:=aS.1 hi;have hd':U.down.row= .ints kd xs:=hd;exact P9 W M.n V hd' h.1
      ·cases h
     ·cases h
    |false=>
     rw[hi]at h;simp only[yg]at h;rw[cJ]at h;obtain⟨K,h⟩:=h;have K:=nl.1 K;rw[KRow.down_sl hi]at hd;split at h
     ·rename_i Z hT';obtain⟨y,β',l,h,hpv⟩:=JL M hT' h;cases hmb:eY b l with
      |true=>rw[hmb]at h;cases h
      |false=>
       rw[hmb]at h;simp only[yg]at h;have fin: ∀{p:PV} {z:den T},(xs.map (c9 ag T))[i]?=some p->p.cells.length=T.size->c9 ag T z=(bif Nat.beq ti.n T.size&&Nat.beq c 0 then c9 ti.ag Z y else .agg (sA p.cells c (c9 ti.ag Z y).cells))->
         k ⟨.lit undef,b::l,pN mem l++ [(b,⟨U.gen,U.frz,.ts (β||β') ag T (xs.set i z)⟩)],[]⟩=some r->∃out,k out=some r/\lF P t (aD mem) (KV.ptr b g i c).down x.down=some out.down:=by
        intro p z hp hpl O hk;refine⟨_,hk,?_⟩;simp only[KV.down,lF,W,ya,M.n];rw[e9];refine⟨V,?_⟩;rw[hd];simp only[hp,hpv,ya,e9,yc];refine⟨⟨⟨nl.2 K,nb.2 hpl⟩,by rw[hmb];rfl⟩,?_⟩;rw[<-O];refine congrArg some ?_;simp only[bK.down,yv3,zI,yl2,yf4];simp[KV.down,dW.down,KRow.down_sl hi,aD,List.map_set]
       cases H:Nat.beq c 0&&Nat.beq ti.n T.size with
       |true=>
        rw[H]at h;simp only[yh]at h;split at h
        ·rename_i z O;rw[cJ]at O;obtain⟨Y,O⟩:=O;have Y:=MP.1 Y;obtain⟨rfl,rfl⟩:=p7 (F:=den) O;simp only[real_guard]at h;rw[cJ]at h;have hlt:=nl.1 h.1;have hx:(xs.map (c9 ag Z))[i]?=some (c9 ag Z xs[i]):=by rw[yh1,ye (by omega)];rfl
         refine fin hx (by rw[cU,cD]) ?_ h.2;rw[Bool.and_comm,H,Y];rfl
        ·cases h
       |false=>
        rw[H]at h;simp only[yg,real_getN]at h;rw[Hx]at h;obtain⟨p,hp,h⟩:=h;obtain⟨z,_,_,h,O⟩:=oA (dZ.setRow c (dZ.of false Z y) (dZ.of false T p)) h;refine fin (p:=c9 ag T p) (by rw[yh1,hp];rfl) (by rw[cU,cD]) ?_ h;rw[Bool.and_comm,H];simp only[yg,cU];rw[<-O];have hsz:ag=true\/2≤T.size:=by
         cases ag with
         |true=>exact .inl rfl
         |false=>
          right;have h1:=Ty.size_pos (T:=T);have h2:=(M.ty Z hT').2.1;have h3:=Ty.size_pos (T:=Z);rcases yq2 T.size 2 with hlt|hge
          ·exfalso;have hc0:c=0:=by omega
           have J:ti.n=T.size:=by omega
           rw[hc0,J]at H;simp at H
          ·exact hge
        exact mP (hsz.imp id λh=>by rw[cD];exact h)
     ·cases h
   ·cases h
  ·cases h
 ·cases h
end
end Go.Ab
