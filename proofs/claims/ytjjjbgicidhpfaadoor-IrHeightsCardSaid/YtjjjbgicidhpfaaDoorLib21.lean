import Derived.Test.YtjjjbgicidhpfaaDoorLib20
set_option linter.unusedVariables false
set_option linter.unusedSectionVars false
set_option linter.unusedSimpArgs false
namespace Go.Ab
variable [cS]
section
variable {P:Program} {R:Type} {r:R} {mem:aH} {tab:TypeId->Option TI} {C:cC} {tbl:FuncId->List aG}
theorem wG{f:Int->Int->Int}{H:IntKind}: ∀{vs:List KV} {a b:Int},yW f H vs a=some b->oL f H (KV.downs vs) a=some b
 | [],a,b,h=>h
 |v::vs,a,b,h=>by
  cases v with
  |lit v=>
   cases v with
   |int k' x=>
    simp only[yW]at h;rw[cJ]at h;simp only[KV.downs,KV.down,oL,e9];exact⟨h.1,wG h.2⟩
   |_=>cases h
  |_=>cases h
theorem UZ(k:IntKind):Vt k=U4:=rfl
theorem Vg(k:IntKind):Vp k=N3:=rfl
theorem Sv(ht:b9 P tab){t U:TypeId}{rs:Nat}{n:Int}{k:bK->Option R}(h:S6 (aZ R) tab mem t U rs n k=some r):
  ∃out,k out=some r/\FZ P t U (aD mem) rs n=some out.down:=by
 unfold S6 at h;split at h
 ·rename_i tix M;split at h
  ·rename_i kx hk;have J:=(cH.of (ht _ _ M)).tk;unfold qU at J;rw[hk]at J;cases Z:P.underlying U with
   |none=>rw[Z]at J;simp at J
   |some d=>
    rw[Z]at J;cases d<;>simp only at J<;>first|cases J|skip
    have W:=iK ht h;clear h;obtain⟨et,N,V,hte,h,_⟩:=W;have H:=cH.of (ht _ _ hte);unfold FZ;rw[Z];simp only;rw[V];simp only[ya,H.zero_eq.1];split at h
    ·rename_i T hT;rw[cJ]at h;obtain⟨hg,h⟩:=h;simp only[yc,yx]at hg;obtain⟨⟨⟨⟨g1,g2⟩,g3⟩,g4⟩,g5⟩:=hg;obtain⟨⟨ls,hls,Y⟩,hn,O,hd⟩:=H.ty T hT;have W:=pS Y hd h;clear h;obtain⟨z,β,ids,h,hz⟩:=W;cases he:gV ids with
     |false=>rw[he]at h;cases h
     |true=>
      rw[he]at h;simp only[yf1,yg,real_guard]at h;rw[cJ]at h;obtain⟨hb,h⟩:=h;simp only[yc]at hb;refine⟨_,h,?_⟩;have K:(fW N).down.cells=KV.downs (N.zero.map .lit):=by rw[(zeroCells H).1,(zeroCells H).2.1]
      have htp:yQ P (aD mem) et (fW N).down=some (β,c9 N.ag T z,ids):=by
       unfold yQ;rw[hls,ya,K,hz];simp only[ya,sW H.ag O,yl]
      rw[H.intKind_none hT g5,htp];simp only[ya,H.n,H.bytes];rw[e9];refine⟨?_,?_⟩
      ·simp only[yc];exact⟨hb,⟨⟨g1,g2⟩,by rw[K,aN,ym1];exact g4⟩,he⟩
      ·simp only[bK.down,KV.down,yl2,yf4,dW.down,KRow.down_sl g5,List.map_replicate,hn];rfl
    ·cases h
  ·cases h
 ·cases h
theorem O1{v:KV}{u:Value}(h:v.down= .lit u):v= .lit u:=by cases v<;>first|(exact congrArg KV.lit (AV.lit.inj h))|cases h
theorem LW{boxed vars:Bool}{t N:TypeId}{m:aO}{rs:Nat}{x y:KV}(K: ∀(k:IntKind) (n:Int),x= .lit (.slice none 0 0)->y= .lit (.int k n)->False):
  eZ P boxed vars .append [t,N] m rs [x.down,y.down]=j8 P boxed vars t N m rs x.down y.down:=by
 unfold eZ;split
 ·rename_i h;simp at h
 ·rename_i H;simp only[List.cons.injEq,and_true]at H;exact(K _ _ (O1 H.1) (O1 H.2)).elim
 ·rename_i J H;simp only[List.cons.injEq,and_true]at J H;obtain⟨rfl,rfl⟩:=J;obtain⟨rfl,rfl⟩:=H;rfl
 ·rename_i h;simp at h
 ·rename_i M h;cases M
 ·rename_i M h;cases M
 ·rename_i V J H U O h6
  first|exact(V _ _ _ _ rfl rfl rfl).elim|exact(J _ _ _ _ rfl rfl rfl).elim|exact(U _ _ _ _ rfl rfl rfl).elim|exact(O _ _ _ _ rfl rfl rfl).elim
theorem Mu(ht:b9 P tab){boxed vars:Bool}{b:Builtin}{ts:List TypeId}{rs:Nat}{args:List KV}{k:bK->Option R}(h:Ef (aZ R) tab boxed vars b ts mem rs args k=some r):
  ∃out,k out=some r/\eZ P boxed vars b ts (aD mem) rs (KV.downs args)=some out.down:=by
 unfold Ef at h;split at h
 ·split at h
  ·rename_i t x;obtain⟨n,rd,h,hl⟩:=Uj ht h;exact⟨_,h,by simp only[KV.downs,eZ,hl,yl];rfl⟩
  ·cases h
 ·split at h
  ·rename_i t tx x y;split at h
   ·obtain⟨out,h,U⟩:=Sv ht h;exact⟨out,h,by simp only[KV.downs,KV.down,eZ,U]⟩
   ·rename_i K;obtain⟨out,h,U⟩:=Ns ht h;exact⟨out,h,by simp only[KV.downs];rw[LW (λk n W V=>K k n W V)];exact U⟩
  ·cases h
 ·split at h
  ·rename_i t;split at h
   ·rename_i ti J;split at h
    ·rename_i et Z;have H:=(cH.of (ht _ _ J)).tk;unfold qU at H;rw[Z]at H;cases O:P.underlying t with
     |none=>rw[O]at H;simp at H
     |some d=>
      rw[O]at H;cases d<;>simp only at H<;>first|cases H|skip
      exact⟨_,h,by simp only[KV.downs,KV.down,eZ,O];rfl⟩
    ·cases h
   ·cases h
  ·cases h
 ·split at h
  ·rename_i Y a N;split at h
   ·rename_i v M;exact⟨_,h,by simp only[KV.downs,KV.down,eZ,UZ,wG M,yl];rfl⟩
   ·cases h
  ·cases h
 ·split at h
  ·rename_i Y a N;split at h
   ·rename_i v M;exact⟨_,h,by simp only[KV.downs,KV.down,eZ,Vg,wG M,yl];rfl⟩
   ·cases h
  ·cases h
 ·cases h
theorem QH(ht:b9 P tab)(hC:I2 C tbl){boxed raw vars:Bool}{o:Oper}{env:Nat->KV}{tmps:List AV}(H:gJ env tmps){rs:Nat}{k:bK->Option R}(h:O0 (aZ R) tab tbl boxed raw vars o env mem rs k=some r):
  ∃out,k out=some r/\Ra P C boxed raw vars o (cN tmps) (aD mem) rs=some out.down:=by
 unfold O0 at h;unfold Ra;split at h<;>first|(rename_i hop;rw[hop];simp only)|cases h
 ·exact Kv ht H h
 ·exact Kv ht H h
 ·obtain⟨c,hc,h,_⟩:=a8 H h;obtain⟨a,W,h,_⟩:=a8 H h;obtain⟨b,hb,h,_⟩:=a8 H h;obtain⟨v,K,h⟩:=Sj h;exact⟨_,h,by simp only[IL,hc,W,hb,ya,K,yl];rfl⟩
 ·split at h
  ·rename_i ti U;have M:=cH.of (ht _ _ U);rw[cJ]at h;obtain⟨N,h⟩:=h;simp only[yc]at N;refine⟨_,h,?_⟩;unfold CC;rw[M.zero_eq.1];simp only[ya];have Y:=(zeroCells M).1;rw[(zeroCells M).2.1]at Y;rw[e9];refine⟨?_,by rw[Y];rfl⟩;rw[Y,aN,ym1,yc];exact⟨N.1,gC N.2⟩
  ·cases h
 ·obtain⟨v,K,h,_⟩:=a8 H h;split at h
  ·rename_i ti U;have M:=cH.of (ht _ _ U);rw[cJ]at h;obtain⟨N,h⟩:=h;simp only[yc]at N;refine⟨_,h,?_⟩;unfold Nd;rw[K];simp only[ya,M.n];rw[e9];simp only[fE,aN,yc];exact⟨⟨⟨N.1.1,N.1.2⟩,gC N.2⟩,rfl⟩
  ·cases h
 ·obtain⟨ps,hps,h⟩:=wL H h;obtain⟨v,K,h⟩:=Pm ht h;exact⟨_,h,by simp only[Do,hps,ya,K,yl];rfl⟩
 ·exact G5 ht H h
 ·obtain⟨a,W,h,_⟩:=a8 H h;obtain⟨out,h,hl,_⟩:=KE ht h;exact⟨out,h,by simp only[W,ya,hl]⟩
 ·obtain⟨a,W,h,_⟩:=a8 H h;obtain⟨x,J,h,_⟩:=a8 H h;obtain⟨out,h,hs⟩:=PE ht h;exact⟨out,h,by simp only[AS,W,J,ya,hs]⟩
 ·obtain⟨v,K,h,_⟩:=a8 H h;unfold OQ;rw[K];simp only[ya];split at h
  ·exact⟨_,h,rfl⟩
  ·exact⟨_,h,rfl⟩
  ·exact⟨_,h,rfl⟩
  ·cases h
 ·obtain⟨x,J,h,_⟩:=a8 H h;obtain⟨y,hy,h,_⟩:=a8 H h;obtain⟨v,K,h⟩:=RR ht h;exact⟨_,h,by simp only[NJ,J,hy,ya,K,yl];rfl⟩
 ·obtain⟨x,J,h,_⟩:=a8 H h;obtain⟨a,v,rfl,K,h⟩:=Uo h;exact⟨_,h,by simp only[Ux,J,ya,KV.down,K,yl];rfl⟩
 ·obtain⟨x,J,h,_⟩:=a8 H h;obtain⟨out,h,hc⟩:=Lu ht h;exact⟨out,h,by simp only[J,ya,hc]⟩
 ·obtain⟨fi,hfi,h,_⟩:=nJ H h;obtain⟨ca,hca,h,_⟩:=nJ H h;exact⟨_,h,by simp only[IR,hfi,hca,ya,yl];rfl⟩
 ·obtain⟨l,hl,h,_⟩:=a8 H h;obtain⟨c,hc,h,_⟩:=a8 H h;exact H8 ht hl hc h
 ·obtain⟨x,J,h,_⟩:=a8 H h;obtain⟨lo,hlo,h⟩:=s5 H h;obtain⟨hi,hhi,h⟩:=s5 H h;obtain⟨mx,hmx,h⟩:=s5 H h;obtain⟨out,h,hs⟩:=QF ht h;exact⟨out,h,by simp only[A6,J,hlo,hhi,hmx,ya,hs]⟩
 ·obtain⟨x,J,h,_⟩:=a8 H h;obtain⟨off,n,ft,hf,h⟩:=IP ht h;unfold oN;rw[J];simp only[ya,hf];split at h
  ·exact⟨_,h,rfl⟩
  ·exact⟨_,h,rfl⟩
  ·cases h
 ·obtain⟨x,J,h,_⟩:=a8 H h;obtain⟨off,n,ft,hf,h⟩:=IP ht h;unfold C8;rw[J];simp only[ya,hf];split at h
  ·rename_i cs;split at h
   ·rename_i tf htf;have M:=cH.of (ht _ _ htf);simp only[KV.down,M.ag,ya];cases N:tf.ag with
    |true=>
     rw[N]at h;simp only[yh]at h⊢
     rw[cJ]at h;refine⟨_,h.2,?_⟩;rw[e9];exact⟨by rw[aN];exact h.1,by simp[jB,bK.down,KV.down,dD,yp3,yh4,aD]⟩
    |false=>
     rw[N]at h;simp only[yg]at h⊢
     split at h
     ·rename_i v K;rw[bH]at K;exact⟨_,h,by rw[pR K];rfl⟩
     ·cases h
   ·cases h
  ·cases h
 ·obtain⟨x,J,h,_⟩:=a8 H h;obtain⟨ix,V,h,_⟩:=a8 H h;unfold AH;rw[J,V];simp only[ya];split at h
  ·rename_i kd i;obtain⟨out,h,hi⟩:=PU ht h;exact⟨out,h,hi⟩
  ·cases h
 ·obtain⟨x,J,h,_⟩:=a8 H h;obtain⟨ix,V,h,_⟩:=a8 H h;exact Nw ht J V h
 ·obtain⟨t,ht',h,_⟩:=a8 H h;unfold sY;rw[ht'];simp only[ya];split at h
  ·rename_i vs;split at h
   ·rename_i v K;rw[bH]at K;exact⟨_,h,by simp only[KV.down];rw[pR K];rfl⟩
   ·cases h
  ·cases h
 ·obtain⟨args,O,h,_⟩:=nJ H h;unfold Fp;rw[O];simp only[ya];split at h
  ·rename_i b hb;rw[hb];simp only;exact Mu ht h
  ·rename_i f hf;rw[hf];simp only;obtain⟨fv,Z,h,_⟩:=a8 H h;rw[Z];simp only[ya];split at h
   ·rename_i g fi ca;exact RZ ht hC h
   ·cases h
  ·cases h
end
end Go.Ab
