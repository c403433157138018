import Derived.Test.YtjjjbgicidhpfaaDoorLib19
set_option linter.unusedVariables false
set_option linter.unusedSectionVars false
set_option linter.unusedSimpArgs false
namespace Go.Ab
variable [b3]
section
variable {P:Program} {R:Type} {r:R} {mem:aE} {tab:TypeId->Option TI} {C:bM} {tbl:FuncId->List aD}
theorem oX{f:Int->Int->Int}{H:IntKind}: ∀{vs:List KV} {a b:Int},rY f H vs a=some b->j8 f H (KV.downs vs) a=some b
 | [],a,b,h=>h
 |v::vs,a,b,h=>by
  cases v with
  |lit v=>
   cases v with
   |int k' x=>
    simp only[rY]at h;rw[bP]at h;simp only[KV.downs,KV.down,j8,dS];exact⟨h.1,oX h.2⟩
   |_=>cases h
  |_=>cases h
theorem N1(k:IntKind):Od k=OV:=rfl
theorem Ou(k:IntKind):Oi k=Nv:=rfl
theorem L3(ht:bL P tab){t Z:TypeId}{rs:Nat}{n:Int}{k:a9->Option R}(h:NH (aQ R) tab mem t Z rs n k=some r):
  ∃out,k out=some r/\BP P t Z (aB mem) rs n=some out.down:=by
 unfold NH at h;split at h
 ·rename_i tix J;split at h
  ·rename_i kx hk;have I:=(bT.of (ht _ _ J)).tk;unfold m9 at I;rw[hk]at I;cases V:P.underlying Z with
   |none=>rw[V]at I;simp at I
   |some d=>
    rw[V]at I;cases d<;>simp only at I<;>first|cases I|skip
    have Y:=e8 ht h;clear h;obtain⟨et,M,het,U,h,_⟩:=Y;have H:=bT.of (ht _ _ U);unfold BP;rw[V];simp only;rw[het];simp only[ye,H.zero_eq.1];split at h
    ·rename_i T hT;rw[bP]at h;obtain⟨hg,h⟩:=h;simp only[yb,yq]at hg;obtain⟨⟨⟨⟨g1,g2⟩,g3⟩,g4⟩,g5⟩:=hg;obtain⟨⟨ls,W,hcl⟩,hn,N,hd⟩:=H.ty T hT;have Y:=lH hcl hd h;clear h;obtain⟨z,β,ids,h,hz⟩:=Y;cases O:eX ids with
     |false=>rw[O]at h;cases h
     |true=>
      rw[O]at h;simp only[Bool.not_true,yj,real_guard]at h;rw[bP]at h;obtain⟨hb,h⟩:=h;simp only[yb]at hb;refine⟨_,h,?_⟩;have K:(d7 M).down.cells=KV.downs (M.zero.map .lit):=by rw[(zeroCells H).1,(zeroCells H).2.1]
      have htp:qH P (aB mem) et (d7 M).down=some (β,cF M.ag T z,ids):=by
       unfold qH;rw[W,ye,K,hz];simp only[ye,oE H.ag N,yh]
      rw[H.intKind_none hT g5,htp];simp only[ye,H.n,H.bytes];rw[dS];refine⟨?_,?_⟩
      ·simp only[yb];exact⟨hb,⟨⟨g1,g2⟩,by rw[K,aJ,ye1];exact g4⟩,O⟩
      ·simp only[a9.down,KV.down,yt1,yi3,cS.down,KRow.down_sl g5,List.map_replicate,hn];rfl
    ·cases h
  ·cases h
 ·cases h
theorem Jk{v:KV}{u:Value}(h:v.down= .lit u):v= .lit u:=by cases v<;>first|(exact congrArg KV.lit (AV.lit.inj h))|cases h
theorem HN{boxed vars:Bool}{t M:TypeId}{m:aK}{rs:Nat}{x y:KV}(K: ∀(k:IntKind) (n:Int),x= .lit (.slice none 0 0)->y= .lit (.int k n)->False):
  dK P boxed vars .append [t,M] m rs [x.down,y.down]=f6 P boxed vars t M m rs x.down y.down:=by
 unfold dK;split
 ·rename_i h;simp at h
 ·rename_i H;simp only[List.cons.injEq,and_true]at H;exact(K _ _ (Jk H.1) (Jk H.2)).elim
 ·rename_i I H;simp only[List.cons.injEq,and_true]at I H;obtain⟨rfl,rfl⟩:=I;obtain⟨rfl,rfl⟩:=H;rfl
 ·rename_i h;simp at h
 ·rename_i J h;cases J
 ·rename_i J h;cases J
 ·rename_i N I H O U h6
  first|exact(N _ _ _ _ rfl rfl rfl).elim|exact(I _ _ _ _ rfl rfl rfl).elim|exact(O _ _ _ _ rfl rfl rfl).elim|exact(U _ _ _ _ rfl rfl rfl).elim
theorem GO(ht:bL P tab){boxed vars:Bool}{b:Builtin}{ts:List TypeId}{rs:Nat}{args:List KV}{k:a9->Option R}(h:yW (aQ R) tab boxed vars b ts mem rs args k=some r):
  ∃out,k out=some r/\dK P boxed vars b ts (aB mem) rs (KV.downs args)=some out.down:=by
 unfold yW at h;split at h
 ·split at h
  ·rename_i t x;obtain⟨n,rd,h,W⟩:=Na ht h;exact⟨_,h,by simp only[KV.downs,dK,W,yh];rfl⟩
  ·cases h
 ·split at h
  ·rename_i t tx x y;split at h
   ·obtain⟨out,h,K⟩:=L3 ht h;exact⟨out,h,by simp only[KV.downs,KV.down,dK,K]⟩
   ·rename_i J;obtain⟨out,h,K⟩:=IA ht h;exact⟨out,h,by simp only[KV.downs];rw[HN (λk n U Y=>J k n U Y)];exact K⟩
  ·cases h
 ·split at h
  ·rename_i t;split at h
   ·rename_i ti N;split at h
    ·rename_i et Z;have H:=(bT.of (ht _ _ N)).tk;unfold m9 at H;rw[Z]at H;cases I:P.underlying t with
     |none=>rw[I]at H;simp at H
     |some d=>
      rw[I]at H;cases d<;>simp only at H<;>first|cases H|skip
      exact⟨_,h,by simp only[KV.downs,KV.down,dK,I];rfl⟩
    ·cases h
   ·cases h
  ·cases h
 ·split at h
  ·rename_i V a M;split at h
   ·rename_i v O;exact⟨_,h,by simp only[KV.downs,KV.down,dK,N1,oX O,yh];rfl⟩
   ·cases h
  ·cases h
 ·split at h
  ·rename_i V a M;split at h
   ·rename_i v O;exact⟨_,h,by simp only[KV.downs,KV.down,dK,Ou,oX O,yh];rfl⟩
   ·cases h
  ·cases h
 ·cases h
theorem Ly(ht:bL P tab)(hC:C1 C tbl){boxed raw vars:Bool}{o:Oper}{env:Nat->KV}{tmps:List AV}(H:eJ env tmps){rs:Nat}{k:a9->Option R}(h:Ip (aQ R) tab tbl boxed raw vars o env mem rs k=some r):
  ∃out,k out=some r/\Lg P C boxed raw vars o (bW tmps) (aB mem) rs=some out.down:=by
 unfold Ip at h;unfold Lg;split at h<;>first|(rename_i hop;rw[hop];simp only)|cases h
 ·exact Gm ht H h
 ·exact Gm ht H h
 ·obtain⟨c,Y,h,_⟩:=aS H h;obtain⟨a,V,h,_⟩:=aS H h;obtain⟨b,hb,h,_⟩:=aS H h;obtain⟨v,J,h⟩:=Mp h;exact⟨_,h,by simp only[CH,Y,V,hb,ye,J,yh];rfl⟩
 ·split at h
  ·rename_i ti O;have K:=bT.of (ht _ _ O);rw[bP]at h;obtain⟨M,h⟩:=h;simp only[yb]at M;refine⟨_,h,?_⟩;unfold zV;rw[K.zero_eq.1];simp only[ye];have hz:=(zeroCells K).1;rw[(zeroCells K).2.1]at hz;rw[dS];refine⟨?_,by rw[hz];rfl⟩;rw[hz,aJ,ye1,yb];exact⟨M.1,eG M.2⟩
  ·cases h
 ·obtain⟨v,J,h,_⟩:=aS H h;split at h
  ·rename_i ti O;have K:=bT.of (ht _ _ O);rw[bP]at h;obtain⟨M,h⟩:=h;simp only[yb]at M;refine⟨_,h,?_⟩;unfold IB;rw[J];simp only[ye,K.n];rw[dS];simp only[dU,aJ,yb];exact⟨⟨⟨M.1.1,M.1.2⟩,eG M.2⟩,rfl⟩
  ·cases h
 ·obtain⟨ps,hps,h⟩:=pW H h;obtain⟨v,J,h⟩:=JV ht h;exact⟨_,h,by simp only[zI,hps,ye,J,yh];rfl⟩
 ·exact Cn ht H h
 ·obtain⟨a,V,h,_⟩:=aS H h;obtain⟨out,h,hl,_⟩:=Gd ht h;exact⟨out,h,by simp only[V,ye,hl]⟩
 ·obtain⟨a,V,h,_⟩:=aS H h;obtain⟨x,I,h,_⟩:=aS H h;obtain⟨out,h,hs⟩:=KF ht h;exact⟨out,h,by simp only[sV,V,I,ye,hs]⟩
 ·obtain⟨v,J,h,_⟩:=aS H h;unfold Jp;rw[J];simp only[ye];split at h
  ·exact⟨_,h,rfl⟩
  ·exact⟨_,h,rfl⟩
  ·exact⟨_,h,rfl⟩
  ·cases h
 ·obtain⟨x,I,h,_⟩:=aS H h;obtain⟨y,hy,h,_⟩:=aS H h;obtain⟨v,J,h⟩:=LL ht h;exact⟨_,h,by simp only[H1,I,hy,ye,J,yh];rfl⟩
 ·obtain⟨x,I,h,_⟩:=aS H h;obtain⟨a,v,rfl,J,h⟩:=Nc h;exact⟨_,h,by simp only[MR,I,ye,KV.down,J,yh];rfl⟩
 ·obtain⟨x,I,h,_⟩:=aS H h;obtain⟨out,h,Y⟩:=GQ ht h;exact⟨out,h,by simp only[I,ye,Y]⟩
 ·obtain⟨fi,hfi,h,_⟩:=jL H h;obtain⟨ca,hca,h,_⟩:=jL H h;exact⟨_,h,by simp only[Dc,hfi,hca,ye,yh];rfl⟩
 ·obtain⟨l,hl,h,_⟩:=aS H h;obtain⟨c,Y,h,_⟩:=aS H h;exact CG ht hl Y h
 ·obtain⟨x,I,h,_⟩:=aS H h;obtain⟨lo,hlo,h⟩:=oF H h;obtain⟨hi,hhi,h⟩:=oF H h;obtain⟨mx,hmx,h⟩:=oF H h;obtain⟨out,h,hs⟩:=JH ht h;exact⟨out,h,by simp only[u9,I,hlo,hhi,hmx,ye,hs]⟩
 ·obtain⟨x,I,h,_⟩:=aS H h;obtain⟨off,n,ft,W,h⟩:=Dn ht h;unfold kA;rw[I];simp only[ye,W];split at h
  ·exact⟨_,h,rfl⟩
  ·exact⟨_,h,rfl⟩
  ·cases h
 ·obtain⟨x,I,h,_⟩:=aS H h;obtain⟨off,n,ft,W,h⟩:=Dn ht h;unfold Aj;rw[I];simp only[ye,W];split at h
  ·rename_i cs;split at h
   ·rename_i tf htf;have K:=bT.of (ht _ _ htf);simp only[KV.down,K.ag,ye];cases M:tf.ag with
    |true=>
     rw[M]at h;simp only[yl]at h⊢
     rw[bP]at h;refine⟨_,h.2,?_⟩;rw[dS];exact⟨by rw[aJ];exact h.1,by simp[fK,a9.down,KV.down,cC,yv2,yk3,aB]⟩
    |false=>
     rw[M]at h;simp only[yj]at h⊢
     split at h
     ·rename_i v J;rw[a7]at J;exact⟨_,h,by rw[lJ J];rfl⟩
     ·cases h
   ·cases h
  ·cases h
 ·obtain⟨x,I,h,_⟩:=aS H h;obtain⟨ix,U,h,_⟩:=aS H h;unfold sT;rw[I,U];simp only[ye];split at h
  ·rename_i kd i;obtain⟨out,h,hi⟩:=KK ht h;exact⟨out,h,hi⟩
  ·cases h
 ·obtain⟨x,I,h,_⟩:=aS H h;obtain⟨ix,U,h,_⟩:=aS H h;exact H4 ht I U h
 ·obtain⟨t,ht',h,_⟩:=aS H h;unfold oK;rw[ht'];simp only[ye];split at h
  ·rename_i vs;split at h
   ·rename_i v J;rw[a7]at J;exact⟨_,h,by simp only[KV.down];rw[lJ J];rfl⟩
   ·cases h
  ·cases h
 ·obtain⟨args,N,h,_⟩:=jL H h;unfold AG;rw[N];simp only[ye];split at h
  ·rename_i b hb;rw[hb];simp only;exact GO ht h
  ·rename_i f W;rw[W];simp only;obtain⟨fv,Z,h,_⟩:=aS H h;rw[Z];simp only[ye];split at h
   ·rename_i g fi ca;exact LD ht hC h
   ·cases h
  ·cases h
end
end Go.Ab
