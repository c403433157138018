import Derived.Test.YtjjjbgicidhpfaaDoorLib20
set_option linter.unusedVariables false
set_option linter.unusedSectionVars false
set_option linter.unusedSimpArgs false
namespace Go.Ab
variable [cF]
section
variable {P:Program} {R:Type} {r:R} {mem:aF} {tab:TypeId->Option TI} {C:bX} {tbl:FuncId->List aE}
theorem sS{f:Int->Int->Int}{H:IntKind}: ∀{vs:List KV} {a b:Int},vS f H vs a=some b->mQ f H (KV.downs vs) a=some b
 | [],a,b,h=>h
 |v::vs,a,b,h=>by
  cases v with
  |lit v=>
   cases v with
   |int k' x=>
    simp only[vS]at h;rw[bZ]at h;simp only[KV.downs,KV.down,mQ,eK];exact⟨h.1,sS h.2⟩
   |_=>cases h
  |_=>cases h
theorem SZ(k:IntKind):TG k=TH:=rfl
theorem ST(k:IntKind):S2 k=L6:=rfl
theorem Qp(ht:bT P tab){t W:TypeId}{rs:Nat}{n:Int}{k:bC->Option R}(h:RD (aS R) tab mem t W rs n k=some r):
  ∃out,k out=some r/\D9 P t W (aB mem) rs n=some out.down:=by
 unfold RD at h;split at h
 ·rename_i tix M;split at h
  ·rename_i kx hk;have J:=(b5.of (ht _ _ M)).tk;unfold pL at J;rw[hk]at J;cases U:P.underlying W with
   |none=>rw[U]at J;simp at J
   |some d=>
    rw[U]at J;cases d<;>simp only at J<;>first|cases J|skip
    have V:=gG ht h;clear h;obtain⟨et,N,het,O,h,_⟩:=V;have H:=b5.of (ht _ _ O);unfold D9;rw[U];simp only;rw[het];simp only[yb,H.zero_eq.1];split at h
    ·rename_i T hT;rw[bZ]at h;obtain⟨hg,h⟩:=h;simp only[yc,yw]at hg;obtain⟨⟨⟨⟨g1,g2⟩,g3⟩,g4⟩,g5⟩:=hg;obtain⟨⟨ls,Z,hcl⟩,hn,hag,hd⟩:=H.ty T hT;have V:=nU hcl hd h;clear h;obtain⟨z,β,ids,h,hz⟩:=V;cases Y:fZ ids with
     |false=>rw[Y]at h;cases h
     |true=>
      rw[Y]at h;simp only[yf2,yh,real_guard]at h;rw[bZ]at h;obtain⟨hb,h⟩:=h;simp only[yc]at hb;refine⟨_,h,?_⟩;have K:(e8 N).down.cells=KV.downs (N.zero.map .lit):=by rw[(zeroCells H).1,(zeroCells H).2.1]
      have htp:vL P (aB mem) et (e8 N).down=some (β,cR N.ag T z,ids):=by
       unfold vL;rw[Z,yb,K,hz];simp only[yb,rB H.ag hag,yl]
      rw[H.intKind_none hT g5,htp];simp only[yb,H.n,H.bytes];rw[eK];refine⟨?_,?_⟩
      ·simp only[yc];exact⟨hb,⟨⟨g1,g2⟩,by rw[K,aJ,yk1];exact g4⟩,Y⟩
      ·simp only[bC.down,KV.down,yg2,yf4,dE.down,KRow.down_sl g5,List.map_replicate,hn];rfl
    ·cases h
  ·cases h
 ·cases h
theorem Mb{v:KV}{u:Value}(h:v.down= .lit u):v= .lit u:=by cases v<;>first|(exact congrArg KV.lit (AV.lit.inj h))|cases h
theorem KD{boxed vars:Bool}{t N:TypeId}{m:aK}{rs:Nat}{x y:KV}(M: ∀(k:IntKind) (n:Int),x= .lit (.slice none 0 0)->y= .lit (.int k n)->False):
  eD P boxed vars .append [t,N] m rs [x.down,y.down]=iM P boxed vars t N m rs x.down y.down:=by
 unfold eD;split
 ·rename_i h;simp at h
 ·rename_i H;simp only[List.cons.injEq,and_true]at H;exact(M _ _ (Mb H.1) (Mb H.2)).elim
 ·rename_i J H;simp only[List.cons.injEq,and_true]at J H;obtain⟨rfl,rfl⟩:=J;obtain⟨rfl,rfl⟩:=H;rfl
 ·rename_i h;simp at h
 ·rename_i K h;cases K
 ·rename_i K h;cases K
 ·rename_i O J H U V h6
  first|exact(O _ _ _ _ rfl rfl rfl).elim|exact(J _ _ _ _ rfl rfl rfl).elim|exact(U _ _ _ _ rfl rfl rfl).elim|exact(V _ _ _ _ rfl rfl rfl).elim
theorem Jt(ht:bT P tab){boxed vars:Bool}{b:Builtin}{ts:List TypeId}{rs:Nat}{args:List KV}{k:bC->Option R}(h:Br (aS R) tab boxed vars b ts mem rs args k=some r):
  ∃out,k out=some r/\eD P boxed vars b ts (aB mem) rs (KV.downs args)=some out.down:=by
 unfold Br at h;split at h
 ·split at h
  ·rename_i t x;obtain⟨n,rd,h,Z⟩:=Rt ht h;exact⟨_,h,by simp only[KV.downs,eD,Z,yl];rfl⟩
  ·cases h
 ·split at h
  ·rename_i t tx x y;split at h
   ·obtain⟨out,h,K⟩:=Qp ht h;exact⟨out,h,by simp only[KV.downs,KV.down,eD,K]⟩
   ·rename_i O;obtain⟨out,h,K⟩:=K4 ht h;exact⟨out,h,by simp only[KV.downs];rw[KD (λk n Y W=>O k n Y W)];exact K⟩
  ·cases h
 ·split at h
  ·rename_i t;split at h
   ·rename_i ti N;split at h
    ·rename_i et V;have H:=(b5.of (ht _ _ N)).tk;unfold pL at H;rw[V]at H;cases J:P.underlying t with
     |none=>rw[J]at H;simp at H
     |some d=>
      rw[J]at H;cases d<;>simp only at H<;>first|cases H|skip
      exact⟨_,h,by simp only[KV.downs,KV.down,eD,J];rfl⟩
    ·cases h
   ·cases h
  ·cases h
 ·split at h
  ·rename_i kd a U;split at h
   ·rename_i v M;exact⟨_,h,by simp only[KV.downs,KV.down,eD,SZ,sS M,yl];rfl⟩
   ·cases h
  ·cases h
 ·split at h
  ·rename_i kd a U;split at h
   ·rename_i v M;exact⟨_,h,by simp only[KV.downs,KV.down,eD,ST,sS M,yl];rfl⟩
   ·cases h
  ·cases h
 ·cases h
theorem Ph(ht:bT P tab)(hC:Gs C tbl){boxed raw vars:Bool}{o:Oper}{env:Nat->KV}{tmps:List AV}(H:fJ env tmps){rs:Nat}{k:bC->Option R}(h:Lc (aS R) tab tbl boxed raw vars o env mem rs k=some r):
  ∃out,k out=some r/\OV P C boxed raw vars o (cC tmps) (aB mem) rs=some out.down:=by
 unfold Lc at h;unfold OV;split at h<;>first|(rename_i hop;rw[hop];simp only)|cases h
 ·exact IB ht H h
 ·exact IB ht H h
 ·obtain⟨c,hc,h,_⟩:=aU H h;obtain⟨a,W,h,_⟩:=aU H h;obtain⟨b,hb,h,_⟩:=aU H h;obtain⟨v,K,h⟩:=QG h;exact⟨_,h,by simp only[GP,hc,W,hb,yb,K,yl];rfl⟩
 ·split at h
  ·rename_i ti U;have M:=b5.of (ht _ _ U);rw[bZ]at h;obtain⟨N,h⟩:=h;simp only[yc]at N;refine⟨_,h,?_⟩;unfold Ca;rw[M.zero_eq.1];simp only[yb];have hz:=(zeroCells M).1;rw[(zeroCells M).2.1]at hz;rw[eK];refine⟨?_,by rw[hz];rfl⟩;rw[hz,aJ,yk1,yc];exact⟨N.1,fG N.2⟩
  ·cases h
 ·obtain⟨v,K,h,_⟩:=aU H h;split at h
  ·rename_i ti U;have M:=b5.of (ht _ _ U);rw[bZ]at h;obtain⟨N,h⟩:=h;simp only[yc]at N;refine⟨_,h,?_⟩;unfold L3;rw[K];simp only[yb,M.n];rw[eK];simp only[eS,aJ,yc];exact⟨⟨⟨N.1.1,N.1.2⟩,fG N.2⟩,rfl⟩
  ·cases h
 ·obtain⟨ps,hps,h⟩:=sI H h;obtain⟨v,K,h⟩:=Oj ht h;exact⟨_,h,by simp only[Bc,hps,yb,K,yl];rfl⟩
 ·exact Fs ht H h
 ·obtain⟨a,W,h,_⟩:=aU H h;obtain⟨out,h,hl,_⟩:=Ip ht h;exact⟨out,h,by simp only[W,yb,hl]⟩
 ·obtain⟨a,W,h,_⟩:=aU H h;obtain⟨x,J,h,_⟩:=aU H h;obtain⟨out,h,hs⟩:=NE ht h;exact⟨out,h,by simp only[zL,W,J,yb,hs]⟩
 ·obtain⟨v,K,h,_⟩:=aU H h;unfold Ml;rw[K];simp only[yb];split at h
  ·exact⟨_,h,rfl⟩
  ·exact⟨_,h,rfl⟩
  ·exact⟨_,h,rfl⟩
  ·cases h
 ·obtain⟨x,J,h,_⟩:=aU H h;obtain⟨y,hy,h,_⟩:=aU H h;obtain⟨v,K,h⟩:=QF ht h;exact⟨_,h,by simp only[Lu,J,hy,yb,K,yl];rfl⟩
 ·obtain⟨x,J,h,_⟩:=aU H h;obtain⟨a,v,rfl,K,h⟩:=RH h;exact⟨_,h,by simp only[RJ,J,yb,KV.down,K,yl];rfl⟩
 ·obtain⟨x,J,h,_⟩:=aU H h;obtain⟨out,h,hc⟩:=Km ht h;exact⟨out,h,by simp only[J,yb,hc]⟩
 ·obtain⟨fi,Z,h,_⟩:=lW H h;obtain⟨ca,hca,h,_⟩:=lW H h;exact⟨_,h,by simp only[G9,Z,hca,yb,yl];rfl⟩
 ·obtain⟨l,hl,h,_⟩:=aU H h;obtain⟨c,hc,h,_⟩:=aU H h;exact GK ht hl hc h
 ·obtain⟨x,J,h,_⟩:=aU H h;obtain⟨lo,hlo,h⟩:=qV H h;obtain⟨hi,hhi,h⟩:=qV H h;obtain⟨mx,hmx,h⟩:=qV H h;obtain⟨out,h,hs⟩:=N2 ht h;exact⟨out,h,by simp only[y5,J,hlo,hhi,hmx,yb,hs]⟩
 ·obtain⟨x,J,h,_⟩:=aU H h;obtain⟨off,n,ft,hf,h⟩:=Hx ht h;unfold mJ;rw[J];simp only[yb,hf];split at h
  ·exact⟨_,h,rfl⟩
  ·exact⟨_,h,rfl⟩
  ·cases h
 ·obtain⟨x,J,h,_⟩:=aU H h;obtain⟨off,n,ft,hf,h⟩:=Hx ht h;unfold BA;rw[J];simp only[yb,hf];split at h
  ·rename_i cs;split at h
   ·rename_i tf Y;have M:=b5.of (ht _ _ Y);simp only[KV.down,M.ag,yb];cases N:tf.ag with
    |true=>
     rw[N]at h;simp only[yg]at h⊢
     rw[bZ]at h;refine⟨_,h.2,?_⟩;rw[eK];exact⟨by rw[aJ];exact h.1,by simp[gV,bC.down,KV.down,cQ,yl3,yh4,aB]⟩
    |false=>
     rw[N]at h;simp only[yh]at h⊢
     split at h
     ·rename_i v K;rw[bA]at K;exact⟨_,h,by rw[nT K];rfl⟩
     ·cases h
   ·cases h
  ·cases h
 ·obtain⟨x,J,h,_⟩:=aU H h;obtain⟨ix,V,h,_⟩:=aU H h;unfold zN;rw[J,V];simp only[yb];split at h
  ·rename_i kd i;obtain⟨out,h,hi⟩:=N8 ht h;exact⟨out,h,hi⟩
  ·cases h
 ·obtain⟨x,J,h,_⟩:=aU H h;obtain⟨ix,V,h,_⟩:=aU H h;exact K8 ht J V h
 ·obtain⟨t,ht',h,_⟩:=aU H h;unfold qP;rw[ht'];simp only[yb];split at h
  ·rename_i vs;split at h
   ·rename_i v K;rw[bA]at K;exact⟨_,h,by simp only[KV.down];rw[nT K];rfl⟩
   ·cases h
  ·cases h
 ·obtain⟨args,O,h,_⟩:=lW H h;unfold Dh;rw[O];simp only[yb];split at h
  ·rename_i b hb;rw[hb];simp only;exact Jt ht h
  ·rename_i f hf;rw[hf];simp only;obtain⟨fv,hfv,h,_⟩:=aU H h;rw[hfv];simp only[yb];split at h
   ·rename_i g fi ca;exact QM ht hC h
   ·cases h
  ·cases h
end
end Go.Ab
