/- The evaluator. -/
import Derived.Test.YtjjjbgicidhpfaaDoorLib1
import Derived.Laws.AppendOwn
import Derived.Deep.Upon
import Derived.Laws.MakeOwn
import Derived.Great.BuildSlice
import Derived.Laws.BytesString
import Derived.Laws.Cells
import Derived.Lib.AppendZeros
set_option linter.unusedVariables false
set_option linter.unusedSectionVars false
set_option linter.unusedSimpArgs false
section
namespace Go.Ab
variable [b3]
section
variable {P:Program}
def bH(G:Gh)(w:World)(v:aL)(vs:List Value):Prop:=
 vs.length=v.len*v.e/\(∀u∈vs,u.oneCell'=true)/\
 match v with
 | .ints k xs=> ∀(i:Nat) (x:Int),xs[i]?=some x->vs[i]?=some (.int k x)
 | .pvs β e xs=>(∀x∈xs,x.cells.length=e)/\∀(i:Nat) (x:PV) (c:Nat) (y:PV),xs[i]?=some x->x.cells[c]?=some y->∃u,vs[i*e+c]?=some u/\PR w (G.prot β) y u
 | .avs e cs=>cs.length=e*aP e cs.length/\∀(j:Nat) (y:AV),cs[j]?=some y->∃u,vs[j]?=some u/\VR G w y u
theorem oH(r:aX):r.all.e=r.e:=by cases r<;>rfl
theorem dC(r:aX):r.all.len=r.len:=by cases r<;>rfl
theorem jP(v:aL):v.row.e=v.e:=by cases v<;>rfl
theorem e4(v:aL):v.row.len=v.len:=by cases v<;>rfl
theorem iT(v:aL):v.row.all=v:=by cases v<;>rfl
theorem iM(v:aL):v.row.isOwn=false:=by cases v<;>rfl
theorem fW{e n:Nat}(he:1≤e)(k:Nat):aP e (k*e)=k:=by
 unfold aP;have H:Nat.beq e 0=false:=by
  cases e with
  |zero=>omega
  |succ e=>rfl
 rw[H];simp only[yj];cases I:Nat.beq e 1 with
 |true=>rw[Nat.eq_of_beq_eq_true I];simp
 |false=>simp only[yj];exact Nat.mul_div_cancel k (by omega)
theorem fN.toList{G:Gh}{w:World}{B a:Nat}{r:aX}(Z:1≤r.e)(ho:r.isOwn=false)(ha:r.isInts=false->a=0)(h:fN G w B a r):
  ∃vs:List Value,bH G w r.all vs/\∀j,j<vs.length->cl w B (a+j)=vs[j]?:=by
 cases r with
 |ints k xs=>
  refine⟨xs.map (.int k),⟨by simp[aL.len,aL.e,aX.all],by simp[Value.oneCell'],λi x U=>by simp[U]⟩,λj H=>?_⟩;simp at H;rw[h j xs[j] (yf H)];simp[H]
 |pvs β e xs=>
  obtain rfl:=ha rfl;simp only[yy];obtain⟨K,M⟩:=h;have N: ∀j,j<xs.length*e->∃v,cl w B j=some v/\v.oneCell'=true:=by
   intro j H;have hi:j/e<xs.length:=by rw[Nat.div_lt_iff_lt_mul (by simp[aX.e]at Z;omega)];exact H
   have hc:j%e<(xs[j/e]).cells.length:=by rw[K _ (yp2 _)];exact Nat.mod_lt _ (by simp[aX.e]at Z;omega)
   obtain⟨v,I,J,_⟩:=M (j/e) (xs[j/e]) (j%e) ((xs[j/e]).cells[j%e]) (yf _) (yf _);rw[show j/e*e+j%e=j by rw[yh2];exact Nat.div_add_mod j e]at I;exact⟨v,I,J⟩
  refine⟨(List.range (xs.length*e)).map (λj=>(cl w B j).getD undef),⟨by simp[aL.len,aL.e,aX.all],?_,K,?_⟩,?_⟩
  ·intro u V;obtain⟨j,H,rfl⟩:=yq2.1 V;obtain⟨v,I,J⟩:=N j (by simpa using H);rw[I];exact J
  ·intro i x c y U O;have hi:=(yd.1 U).1;have hc:=(yd.1 O).1;obtain⟨v,I,_,W⟩:=M i x c y U O;have Y:i*e+c<xs.length*e:=by
    rw[K x (yt U)]at hc
    calc i*e+c<i*e+e:=by omega
     _=(i+1)*e:=by rw[yj1];simp
     _≤xs.length*e:=yz1 _ hi
   exact⟨v,by simp[Y,I],W⟩
  ·intro j H;simp at H;obtain⟨v,I,_⟩:=N j H;simp[H,I]
 |cells e cs=>
  obtain rfl:=ha rfl;simp only[yy];obtain⟨K,M⟩:=h;refine⟨(List.range cs.length).map (λj=>(cl w B j).getD undef),⟨?_,?_,K,?_⟩,?_⟩
  ·simp only[aL.len,aL.e,aX.all,ye1,List.length_range];rw[yh2];exact K
  ·intro u V;obtain⟨j,H,rfl⟩:=yq2.1 V;obtain⟨v,I,J,_⟩:=M j (cs[j]'(by simpa using H)) (yf _);rw[I];exact J
  ·intro j y O;have H:=(yd.1 O).1;obtain⟨v,I,_,W⟩:=M j y O;exact⟨v,by simp[H,I],W⟩
  ·intro j H;simp at H;obtain⟨v,I,_⟩:=M j (cs[j]) (yf _);simp[H,I]
 |own e xs hs=>cases ho
theorem fN.ofList{G:Gh}{w:World}{B a:Nat}{r:aX}{vs:List Value}(U:r.isOwn=false)(O:r.isInts=false->a=0)(h:bH G w r.all vs)(I: ∀j u,vs[j]?=some u->cl w B (a+j)=some u):fN G w B a r:=by
 obtain⟨hl,N,h⟩:=h;cases r with
 |ints k xs=>exact λi x M=>I _ _ (h i x M)
 |pvs β e xs=>
  obtain rfl:=O rfl;simp only[yy]at I;refine⟨h.1,λi x c y M K=>?_⟩;obtain⟨u,H,J⟩:=h.2 i x c y M K;exact⟨u,I _ _ H,N u (yt H),J⟩
 |cells e cs=>
  obtain rfl:=O rfl;simp only[yy]at I;refine⟨h.1,λj y K=>?_⟩;obtain⟨u,H,J⟩:=h.2 j y K;exact⟨u,I _ _ H,N u (yt H),J⟩
 |own e xs hs=>cases U
theorem bH.mono{G M:Gh}{w O:World}(N:cJ G M)(K:Ev G w O){v:aL}{vs:List Value}(h:bH G w v vs):bH M O v vs:=by
 obtain⟨V,U,h⟩:=h;refine⟨V,U,?_⟩;cases v with
 |ints k xs=>exact h
 |pvs β e xs=>exact⟨h.1,λi x c y W J=>by obtain⟨u,H,I⟩:=h.2 i x c y W J;exact⟨u,H,I.mono (N.prot β) (K.prot β)⟩⟩
 |avs e cs=>exact⟨h.1,λj y J=>by obtain⟨u,H,I⟩:=h.2 j y J;exact⟨u,H,I.mono N K⟩⟩
theorem Oj{G:Gh}{w:World}{β:Bool}{t:TypeId}{p:PV}{c:Nat}{a:AV}(h:Lu P β t p c=some a){cv:Nat->Value}(hr: ∀j y,p.cells[j]?=some y->PR w (G.prot β) y (cv j)):
  ∀(j:Nat) (y:AV),a.cells[j]?=some y->VR G w y (cv (c+j))/\∃q,p.cells[c+j]?=some q:=by
 unfold Lu at h;split at h
 ·rw[bind_some]at h;obtain⟨ls,O,h⟩:=h;rw[bind_some]at h;obtain⟨n,hn,h⟩:=h;rw[aA]at h;obtain⟨N,h⟩:=h;rw[bind_some]at h;obtain⟨as,J,h⟩:=h;obtain rfl:=ya h;obtain⟨K,V⟩:=lM (G:=G) (w:=w) J;obtain⟨U,W⟩:=V (λj=>cv (c+j)) (λj y H _=>hr _ y H);intro j y H;have H:as[j]?=some y:=H;exact⟨W j y H,U j (by rw[<-K];exact(yd.1 H).1)⟩
 ·rw[bind_some]at h;obtain⟨l,K,h⟩:=h;rw[bind_some]at h;obtain⟨q,M,h⟩:=h;have Y:=o4 (G:=G) (w:=w) h (hr c q M);intro j y H;have I:a.cells= [a]:=by
   unfold fC at h;split at h<;>(rw[bind_some]at h;obtain⟨x,_,h⟩:=h;obtain rfl:=ya h;rfl)
  rw[I]at H;cases j with
  |zero=>simp at H;subst H;exact⟨Y,q,M⟩
  |succ j=>simp at H
 ·simp at h
theorem Bv{G:Gh}{w:World}{β:Bool}{t:TypeId}{e:Nat}: ∀{xs:List PV} {cs:List AV} {vs:List Value},Fr P t β e xs=some cs->vs.length=xs.length*e->
  (∀(i:Nat) (x:PV) (c:Nat) (y:PV),xs[i]?=some x->x.cells[c]?=some y->∃u,vs[i*e+c]?=some u/\PR w (G.prot β) y u)->gH G w cs vs
 | [],cs,vs,h,K,_=>by
  simp[Fr]at h;subst h;simp at K;subst K;exact⟨rfl,λj y H=>by simp at H⟩
 |p::r,cs,vs,h,K,W=>by
  simp only[Fr]at h;rw[bind_some]at h;obtain⟨v,hv,h⟩:=h;rw[aA]at h;obtain⟨M,h⟩:=h;have M:=bI.1 M;obtain⟨Y,N,rfl⟩:=yc.1 h;have I:vs.length=e+r.length*e:=by rw[K];simp[yj1,Nat.add_comm]
  have V:=Bv (G:=G) (w:=w) (vs:=vs.drop e) N (by simp[I]) (λi x c y Z H=>by
   obtain⟨u,J,O⟩:=W (i+1) x c y (by simpa using Z) H;refine⟨u,?_,O⟩;rw[yz,show e+(i*e+c)=(i+1)*e+c by rw[yj1];omega];exact J)
  have U:=Oj (P:=P) (G:=G) (w:=w) hv (cv:=λj=>vs.getD j undef) (λj y H=>by
   obtain⟨u,J,O⟩:=W 0 p j y rfl H;simp only[yx2,yy]at J;rw[yi,J];exact O)
  refine⟨by rw[ym1,M,V.1];simp;omega,λj y H=>?_⟩;by_cases hj:j<v.cells.length
  ·rw[yn hj]at H;simpa using(U j y H).1
  ·rw[yu (by omega)]at H;have:=V.2 _ y H;rw[yi,yz]at this;rw[yi,show j=e+(j-v.cells.length) by omega];exact this
theorem Gk: ∀{cs:List AV},iD cs=true->∀v∈cs,GJ v=true
 |v::r,h,u,H=>by
  simp only[iD,yb]at h;cases H with
  |head=>exact h.1
  |tail _ H=>exact Gk h.2 u H
theorem Ij{G:Gh}{w:World}{a:AV}{v:Value}(h:VR G w a v)(H:GJ a=true):v.oneCell'=true:=by
 cases h with
 |lit v hv=>exact H
 |imm β p v I hs=>cases I<;>first|rfl|simp[PV.isSl]at hs
 |dead v h h'=>exact h
 |agg=>simp[GJ]at H
 |tup=>simp[GJ]at H
 |_=>rfl
theorem gH.ones{G:Gh}{w:World}{cs:List AV}{vs:List Value}(h:gH G w cs vs)(J:iD cs=true): ∀u∈vs,u.oneCell'=true:=by
 intro u K;obtain⟨j,I,rfl⟩:=yw1 K;have H:j<cs.length:=by rw[h.1];exact I
 have:=h.2 j cs[j] (yf H);rw[yi,yf I]at this;exact Ij this (Gk J _ (yp2 _))
theorem BC{G:Gh}{w:World}{t:TypeId}{v:aL}{cs:List AV}{vs:List Value}(h:v.toAvs P t=some cs)(H:bH G w v vs):gH G w cs vs:=by
 obtain⟨I,h1,H⟩:=H;cases v with
 |ints k xs=>
  obtain rfl:=ya h;simp only[aL.len,aL.e,yy2]at I;refine⟨by simp[I],λj y J=>?_⟩;obtain⟨x,hx,rfl⟩: ∃x,xs[j]?=some x/\AV.lit (.int k x)=y:=by simpa using J
  rw[yi,H j x hx];exact .lit _ rfl
 |pvs β e xs=>exact Bv h I H.2
 |avs e K=>
  obtain rfl:=ya h;simp only[aL.len,aL.e]at I;refine⟨by rw[I,yh2];exact H.1,λj y J=>?_⟩;obtain⟨u,M,N⟩:=H.2 j y J;rw[yi,M];exact N
theorem gH.append{G:Gh}{w:World}{a b:List AV}{u v:List Value}(h:gH G w a u)(I:gH G w b v):gH G w (a++b) (u++v):=by
 refine⟨by simp[h.1,I.1],λj y H=>?_⟩;by_cases J:j<a.length
 ·rw[yn J]at H;rw[yi,yn (by rw[<-h.1];exact J),<-yi];exact h.2 j y H
 ·rw[yu (by omega)]at H;rw[yi,yu (by rw[<-h.1];omega),<-yi,<-h.1];exact I.2 _ y H
theorem PR.weak{w:World}{G:Gh}(H: ∀B o,G.prot false B o->G.prot true B o){β β':Bool}{p:PV}{v:Value}(h:PR w (G.prot β) p v):PR w (G.prot (β||β')) p v:=by
 cases β<;>cases β'<;>first|exact h|exact h.mono (λ_ _ x=>H _ _ x) (λ_ _ _=>rfl)
theorem PR.weak'{w:World}{G:Gh}(H: ∀B o,G.prot false B o->G.prot true B o){β β':Bool}{p:PV}{v:Value}(h:PR w (G.prot β) p v):PR w (G.prot (β'||β)) p v:=by
 rw[Bool.or_comm];exact h.weak H
theorem Az{G:Gh}{w:World}(O: ∀B o,G.prot false B o->G.prot true B o){t:TypeId}{x y z:aL}{vs us:List Value}(h:x.app P t y=some z)(I:bH G w x vs)(V:bH G w y us):
  bH G w z (vs++us)/\z.e=x.e/\z.e=y.e/\z.len=x.len+y.len:=by
 unfold aL.app at h;split at h
 ·rename_i k xs k' Z;rw[aA]at h;obtain⟨hk,h⟩:=h;rw[iV]at hk;subst hk;obtain rfl:=ya h;obtain⟨J,o1,Y⟩:=I;obtain⟨W,o2,y2⟩:=V;simp only[aL.len,aL.e,yy2]at J W;refine⟨⟨by simp[aL.len,aL.e,J,W],λu K=>(yn1.1 K).elim (o1 u) (o2 u),λi x I=>?_⟩,rfl,rfl,by simp[aL.len]⟩;by_cases hi:i<xs.length
  ·rw[yn hi]at I;rw[yn (by omega)];exact Y i x I
  ·rw[yu (by omega)]at I;rw[yu (by omega),J];exact y2 _ x I
 ·rename_i β e xs β' e' Z;rw[aA]at h;obtain⟨he,h⟩:=h;obtain rfl:=bI.1 he;obtain rfl:=ya h;obtain⟨J,o1,Y⟩:=I;obtain⟨W,o2,y2⟩:=V;simp only[aL.len,aL.e]at J W;refine⟨⟨by simp[aL.len,aL.e,J,W,yj1],λu K=>(yn1.1 K).elim (o1 u) (o2 u),λx I=>(yn1.1 I).elim (Y.1 x) (y2.1 x),λi x c y I V=>?_⟩,rfl,rfl,by simp[aL.len]⟩;by_cases hi:i<xs.length
  ·rw[yn hi]at I;obtain⟨u,K,hp⟩:=Y.2 i x c y I V;exact⟨u,by rw[yn (yd.1 K).1];exact K,hp.weak O⟩
  ·rw[yu (by omega)]at I;obtain⟨u,K,hp⟩:=y2.2 _ x c y I V;refine⟨u,?_,hp.weak' O⟩;have e1:i*e=xs.length*e+(i-xs.length)*e:=by rw[<-yj1];congr 1;omega
   rw[yu (by rw[J,e1];omega),J,show i*e+c-xs.length*e=(i-xs.length)*e+c by omega];exact K
 ·rename_i e xs;rw[bind_some]at h;obtain⟨Z,hys,h⟩:=h;rw[aA]at h;obtain⟨hc,h⟩:=h;obtain rfl:=ya h;simp only[yb]at hc;obtain⟨⟨hones,he⟩,U⟩:=hc;obtain rfl:=bI.1 he;have U:=cE.1 U;have hL:=BC hys V;obtain⟨J,o1,Y⟩:=I;obtain⟨W,o2,y2⟩:=V;replace J:vs.length=aP y.e xs.length*y.e:=J;have hcx:xs.length=aP y.e xs.length*y.e:=by rw[yh2];exact Y.1
  have hcy:Z.length=y.len*y.e:=by rw[hL.1];exact W
  have N:(xs++Z).length=(aP y.e xs.length+y.len)*y.e:=by rw[ym1,hcy,yj1];omega
  have H:aP y.e (xs++Z).length=aP y.e xs.length+y.len:=by rw[N];exact fW (n:=0) U _
  have hxv:gH G w xs vs:=⟨by rw[J];exact hcx,λj z hz=>by obtain⟨u,K,hp⟩:=Y.2 j z hz;rw[yi,K];exact hp⟩
  have M:=hxv.append hL;refine⟨⟨?_,λu K=>(yn1.1 K).elim (o1 u) (o2 u),?_,λj z hz=>?_⟩,rfl,rfl,?_⟩
  ·show(vs++us).length=aP y.e (xs++Z).length*y.e
   rw[H,<-N,M.1]
  ·rw[H,yh2];exact N
  ·have hj:j<(vs++us).length:=by rw[<-M.1];exact(yd.1 hz).1
   have:=M.2 j z hz;rw[yi,yf hj]at this;exact⟨_,yf hj,this⟩
  ·exact H
 ·simp at h
end
end Go.Ab
end
section
namespace Go.Ab
variable [b3]
section
variable {P:Program}
theorem At{e i c n:Nat}(hc:c<e)(H:i<n):i*e+c<n*e:=by
 calc i*e+c<i*e+e:=by omega
  _=(i+1)*e:=by rw[yj1];simp
  _≤n*e:=yz1 _ H
theorem AO{e i c:Nat}(H:c<e):(i*e+c)/e=i/\(i*e+c)%e=c:=by
 constructor
 ·rw[yh2,Nat.mul_add_div (by omega),Nat.div_eq_of_lt H];simp
 ·rw[yh2,Nat.mul_add_mod,Nat.mod_eq_of_lt H]
theorem Ji{P:Program}(w:World){size:Nat}{I J:TypeId}(H:P.underlying I=some (.slice J))(a:Option Addr):Src P size I (.slice a 0 0) 0 [] w:=by
 cases a with
 |none=>exact Src.ofNil w H 0
 |some a=>exact Src.ofSlice w H a 0 0 [] (by simp) (λj u K=>by simp at K) (by simp)
theorem PR.view{w:World}{G:Gh}{β:Bool}{e:Nat}{xs:List PV}{cv:Value}(h:PR w (G.prot β) (.sl e xs) cv):
  (xs= []/\∃a,cv= .slice a 0 0)\/∃B o cap vs,cv= .slice (some ⟨B,o,none⟩) xs.length cap/\1≤e/\xs.length≤cap/\bH G w (.pvs β e xs) vs/\∀j u,vs[j]?=some u->cl w B (o+j)=some u/\G.prot β B (o+j):=by
 cases h with
 |slNil _ a=>exact .inl ⟨rfl,a,rfl⟩
 |sl _ _ B o cap cv W O H h Y hr=>
  have M: ∀j,j<xs.length*e->∃x y,xs[j/e]?=some x/\x.cells[j%e]?=some y:=by
   intro j K;have V:j/e<xs.length:=by rw[Nat.div_lt_iff_lt_mul (by omega)];exact K
   have U:j%e<(xs[j/e]).cells.length:=by rw[H _ (yp2 _)];exact Nat.mod_lt _ (by omega)
   exact⟨_,_,yf V,yf U⟩
  refine .inr ⟨B,o,cap,(List.range (xs.length*e)).map (λj=>cv (j/e) (j%e)),rfl,W,O,⟨by simp[aL.len,aL.e],?_,H,?_⟩,?_⟩
  ·intro u N;obtain⟨j,K,rfl⟩:=yq2.1 N;obtain⟨x,y,I,J⟩:=M j (by simpa using K);exact Y _ x _ y I J
  ·intro i x c y I J;have V:=(yd.1 I).1;have U:=(yd.1 J).1;rw[H x (yt I)]at U;obtain⟨Z,e2⟩:=AO (i:=i) U;exact⟨cv i c,by simp[At U V,Z,e2],hr i x c y I J⟩
  ·intro j u N;have K:j<xs.length*e:=by have:=(yd.1 N).1;simpa using this
   simp[K]at N;subst N;obtain⟨x,y,I,J⟩:=M j K;have:=h _ x _ y I J;rw[show o+j/e*e+j%e=o+j by rw[ys1,yh2,Nat.div_add_mod]]at this;exact this
theorem t4{G:Gh}{w:World}{r:aX}{o n:Nat}{v:aL}{vs:List Value}(Y:1≤r.e)(h:r.sub o n=some v)(hr:bH G w r.all vs):
  bH G w v ((vs.drop (o*r.e)).take (n*r.e))/\v.e=r.e/\v.len=n/\o+n≤r.len:=by
 obtain⟨N,h1,hr⟩:=hr;have K: ∀u∈(vs.drop (o*r.e)).take (n*r.e),u.oneCell'=true:=λu U=>h1 u (List.mem_of_mem_drop (yu2 U));cases r with
 |ints k xs=>
  simp only[aX.sub]at h;rw[aA]at h;obtain⟨H,h⟩:=h;have H:=cE.1 H;obtain rfl:=ya h;simp only[aX.all,aL.len,aL.e,yy2]at N;refine⟨⟨by simp[aL.len,aL.e,aX.e,N],K,λi x M=>?_⟩,rfl,by simp[aL.len];omega,H⟩;have V:i<n:=by have:=(yd.1 M).1;simp at this;omega
  rw[yf1 V,yz]at M;simp only[aX.e,yy2];rw[yf1 V,yz];exact hr _ _ M
 |pvs β e xs=>
  simp only[aX.sub]at h;rw[aA]at h;obtain⟨H,h⟩:=h;have H:=cE.1 H;obtain rfl:=ya h;simp only[aX.all,aL.len,aL.e]at N;simp only[aX.e]at Y;have J:((xs.drop o).take n).length=n:=by simp;omega
  refine⟨⟨?_,K,λx M=>hr.1 x (List.mem_of_mem_drop (yu2 M)),λi x c y M O=>?_⟩,rfl,J,H⟩
  ·simp only[aL.len,aL.e,J,aX.e,yw2,List.length_drop,N];rw[<-Nat.mul_sub_right_distrib];exact Nat.min_eq_left (yz1 _ (by omega))
  ·have V:i<n:=by have:=(yd.1 M).1;omega
   rw[yf1 V,yz]at M;obtain⟨u,U,Z⟩:=hr.2 _ x c y M O;have hc:=(yd.1 O).1;rw[hr.1 x (yt M)]at hc;refine⟨u,?_,Z⟩;simp only[aX.e];rw[yf1 (At hc V),yz,show o*e+(i*e+c)=(o+i)*e+c by rw[yj1];omega];exact U
 |cells e cs=>
  simp only[aX.sub]at h;rw[aA]at h;obtain⟨H,h⟩:=h;have H:=cE.1 H;obtain rfl:=ya h;simp only[aX.e]at Y;have W:cs.length=aP e cs.length*e:=by rw[yh2];exact hr.1
  replace N:vs.length=aP e cs.length*e:=N;have hon:o+n≤aP e cs.length:=by
   rw[W]at H;exact Nat.le_of_mul_le_mul_right H (by omega)
  have J:((cs.drop (o*e)).take (n*e)).length=n*e:=by
   simp only[yw2,List.length_drop];rw[yj1]at H;omega
  have I:aP e ((cs.drop (o*e)).take (n*e)).length=n:=by rw[J];exact fW (n:=0) Y n
  refine⟨⟨?_,K,?_,λj y O=>?_⟩,rfl,I,hon⟩
  ·show _=aP e ((cs.drop (o*e)).take (n*e)).length*e;rw[I];simp only[aX.e,yw2,List.length_drop,N];rw[<-W];rw[yj1]at H;omega
  ·rw[I,J,yh2]
  ·have hj:j<n*e:=by have:=(yd.1 O).1;omega
   rw[yf1 hj,yz]at O;obtain⟨u,U,Z⟩:=hr.2 _ y O;refine⟨u,?_,Z⟩;simp only[aX.e];rw[yf1 hj,yz];exact U
 |own e xs hs=>cases h
theorem Fo(G:Gh)(w:World)(s:ByteArray):bH G w (.ints .u8 (eO s)) (byteCells s):=by
 refine⟨by simp[aL.len,aL.e,eO,byteCells],λu J=>?_,λi x H=>?_⟩
 ·obtain⟨b,_,rfl⟩:=yq2.1 J;rfl
 ·unfold eO at H;unfold byteCells;rw[yc1]at H⊢
  obtain⟨b,I,rfl⟩:=yc.1 H;rw[I];rfl
theorem bH.unmark{G:Gh}{w:World}{β β':Bool}{e:Nat}{xs:List PV}{vs:List Value}(O:xs.all Aw=true)(h:bH G w (.pvs β e xs) vs):bH G w (.pvs β' e xs) vs:=by
 refine⟨h.1,h.2.1,h.2.2.1,λi x c y J I=>?_⟩;obtain⟨u,M,N⟩:=h.2.2.2 i x c y J I;refine⟨u,M,?_⟩;have K:=yi2.1 O x (yt J);have H:=yi2.1 K y (yt I);cases y with
 |lit v=>
  cases N with
  |lit _ h=>exact .lit _ h
 |ints _ _=>cases H
 |sl _ _=>cases H
 |agg _=>cases H
theorem bH.unmarkIf{G:Gh}{w:World}{c β:Bool}{e:Nat}{xs:List PV}{vs:List Value}(h:bH G w (.pvs β e xs) vs):bH G w (.pvs (bif c&&xs.all Aw then false else β) e xs) vs:=by
 cases H:(c&&xs.all Aw)with
 |false=>exact h
 |true=>exact h.unmark (yb _ _ ▸ H).2
theorem yN{G:Gh}{w:World}{mem:aK}{et tx:TypeId}{y:AV}{v:aL×List Nat}{cv:Value}(hM:aI G w mem)(h:view P et mem y=some v)(hy:VR G w y cv)(hs:gW P et=some v.1.e)(K:vO P tx y=true):
  ∃news,Src P v.1.e tx cv v.1.len news w/\bH G w v.1 news:=by
 have I:(∀s,y≠ .lit (.string s))->∃e',P.underlying tx=some (.slice e'):=by
  intro hne;unfold vO at K;split at K
  ·rename_i s _;exact absurd rfl (hne s)
  ·simp at K
  ·exact⟨_,by assumption⟩
  ·simp at K
 unfold view at h;split at h
 ·rename_i β k xs;obtain rfl:=ya h;obtain⟨e',N⟩:=I (by simp);cases hy with
  |imm _ _ _ hp=>
   cases hp with
   |intsNil _ a=>exact⟨[],Ji w N a,by simp[aL.len,aL.e],by simp,λi x O=>by simp at O⟩
   |ints _ _ B o cap hcap hh=>
    refine⟨xs.map (.int k),Src.ofSlice w N ⟨B,o,none⟩ _ cap _ (by simp[aL.len,aL.e]) (λj u U=>?_) (by simp[Value.oneCell']),by simp[aL.len,aL.e],by simp[Value.oneCell'],λi x O=>by simp[O]⟩;obtain⟨x,O,rfl⟩: ∃x,xs[j]?=some x/\Value.int k x=u:=by simpa using U
    rw[cO];exact(hh j x O).1
 ·rename_i β e xs;obtain rfl:=ya h;obtain⟨e',N⟩:=I (by simp);cases hy with
  |imm _ _ _ hp=>
   rcases hp.view with ⟨rfl,a,rfl⟩|⟨B,o,cap,vs,rfl,he,hcap,hv,hc⟩
   ·exact⟨[],Ji w N a,by simp[aL.len,aL.e],by simp,λx O=>by simp at O,λi x c y O=>by simp at O⟩
   ·exact⟨vs,Src.ofSlice w N ⟨B,o,none⟩ _ cap vs hv.1 (λj u U=>by rw[cO];exact(hc j u U).1) hv.2.1,hv.unmarkIf⟩
 ·rename_i b g o n;rw[bind_some]at h;obtain⟨V,M,h⟩:=h;obtain⟨vw,H,rfl⟩:=yc.1 h;obtain⟨e',N⟩:=I (by simp);have he:=(hM.box b V (box?_some M).1).e;rcases hM.at_ms M hy with ⟨B,a0,cap,rfl,hn,hon,hl,ha0,hf,_,_,_,Z,_⟩|⟨rfl,rfl,rfl,hz,_,hl⟩|⟨B,oo,rfl,ho,rfl,hon,_,hl⟩
  ·obtain⟨vs,Y,hcl⟩:=Z.toList he (box?_own M) ha0;obtain⟨hv,hve,hvl,_⟩:=t4 he H Y;refine⟨_,?_,hv⟩;simp only at hs⊢
   rw[hve,hvl];refine Src.ofSlice w N ⟨B,a0+o*V.row.e,none⟩ n cap _ (by rw[hv.1,hve,hvl]) (λj u U=>?_) hv.2.1;rw[cO,ys1];have hj:j<n*V.row.e:=by
    have:=(yd.1 U).1;rw[hv.1,hve,hvl]at this;exact this
   rw[yf1 hj,yz]at U;have:=hcl _ (yd.1 U).1;rw[U]at this;exact this
  ·have W:vw.len=0/\vw.e=V.row.e:=by
    obtain⟨gen,frz,row⟩:=V;cases row<;>simp only[aX.sub]at H<;>first|(cases H;done)|skip<;>rw[aA]at H<;>obtain⟨_,H⟩:=H<;>obtain rfl:=ya H<;>simp[aL.len,aL.e,aX.e,aP]
   have J:bH G w vw []:=by
    refine⟨by simp[W.1],by simp,?_⟩;obtain⟨gen,frz,row⟩:=V;cases row<;>simp only[aX.sub]at H<;>first|(cases H;done)|skip<;>rw[aA]at H<;>obtain⟨_,H⟩:=H<;>obtain rfl:=ya H<;>simp[aP]
   refine⟨[],?_,J⟩;simp only;rw[W.1];exact Src.ofNil w N 0
  ·have W:vw.len=0/\vw.e=V.row.e:=by
    obtain⟨gen,frz,row⟩:=V;cases row<;>simp only[aX.sub]at H<;>first|(cases H;done)|skip<;>rw[aA]at H<;>obtain⟨_,H⟩:=H<;>obtain rfl:=ya H<;>simp[aL.len,aL.e,aX.e,aP]
   have J:bH G w vw []:=by
    refine⟨by simp[W.1],by simp,?_⟩;obtain⟨gen,frz,row⟩:=V;cases row<;>simp only[aX.sub]at H<;>first|(cases H;done)|skip<;>rw[aA]at H<;>obtain⟨_,H⟩:=H<;>obtain rfl:=ya H<;>simp[aP]
   refine⟨[],?_,J⟩;simp only;rw[W.1];exact Src.ofSlice w N ⟨B,oo,none⟩ 0 0 [] (by simp) (λj u U=>by simp at U) (by simp)
 ·rename_i b g;rw[bind_some]at h;obtain⟨V,M,h⟩:=h;obtain rfl:=ya h;obtain⟨e',N⟩:=I (by simp);have he:=(hM.box b V (box?_some M).1).e;rcases hM.at_msw M hy with ⟨B,a0,cap,rfl,hn,hl,ha0,hf,_,_,_,Z,_⟩|⟨rfl,hz,hnc,_,hl⟩
  ·obtain⟨vs,Y,hcl⟩:=Z.toList he (box?_own M) ha0;refine⟨vs,?_,Y⟩;simp only[oH,dC];refine Src.ofSlice w N ⟨B,a0,none⟩ _ cap vs (by rw[Y.1,oH,dC]) (λj u U=>?_) Y.2.1;rw[cO];have:=hcl _ (yd.1 U).1;rw[U]at this;exact this
  ·have J:bH G w V.row.all []:=by
    refine⟨by rw[dC,hz];simp,by simp,?_⟩;obtain⟨gen,frz,row⟩:=V;cases row with
    |ints k xs=>simp only[aX.len]at hz;have:=yo hz;subst this;simp[aX.all]
    |pvs β e xs=>simp only[aX.len]at hz;have:=yo hz;subst this;simp[aX.all]
    |cells e cs=>simp[aX.isCells]at hnc
    |own e xs hs=>exact absurd (box?_own M) (by simp[aX.isOwn])
   refine⟨[],?_,J⟩;simp only[dC,hz];exact Src.ofNil w N 0
 ·rename_i s;obtain rfl:=ya h;obtain rfl:=hy.lit_inv;have N:P.underlying tx=some .string:=by
   unfold vO at K;split at K<;>simp_all
  refine⟨byteCells s,?_,Fo G w s⟩;have:=Src.ofString (P:=P) w N s;simpa[aL.len,aL.e,eO]using this
 ·obtain⟨e',N⟩:=I (by simp);obtain rfl:=hy.lit_inv;split at h
  ·obtain rfl:=ya h;exact⟨[],Src.ofNil w N 0,by simp[aL.len,aL.e],by simp,λi x O=>by simp at O⟩
  ·obtain⟨e,he,rfl⟩:=yc.1 h;exact⟨[],Src.ofNil w N 0,by simp[aL.len,aL.e],by simp,λx O=>by simp at O,λi x c y O=>by simp at O⟩
 ·simp at h
end
end Go.Ab
end
section
namespace Go.Ab
variable [b3]
def aW(G:Gh)(w:World)(mem:aK)(ids:List Nat)(B _o:Nat):Prop:= ∃b∈ids,∃(x:bG) (C:Nat),mem[b]?=some (some x)/\x.row.okShut=true/\d5 G b x C/\(B=C\/∃i c,cA w C x.row i c B)
def Gh.frz(G:Gh)(S:Nat->Nat->Prop):Gh:={G with prot:=fun β B o=>G.prot β B o\/S B o}
theorem cJ.frz(G:Gh)(S:Nat->Nat->Prop)(hS: ∀B o,S B o->G.mine B):cJ G (G.frz S):=⟨rfl,λ_ _ _ h=> .inl h,λ_ _ _ h=>h,λ_ B o h=>h.imp id (hS B o)⟩
theorem aI.mine{G:Gh}{w:World}{mem:aK}(hM:aI G w mem){b:Nat}{x:bG}{L:BI}{B:Nat}(H:mem[b]?=some (some x))(I:G.loc b x.gen=some L)(hB:L.blk=some B):G.mine B:=
 let ⟨_,_,_,h,_⟩:=hM.blk H ⟨L,I,hB⟩;h
theorem aI.inBoxes{G:Gh}{w:World}{mem:aK}(hM:aI G w mem){ids:List Nat}: ∀B o,aW G w mem ids B o->G.mine B:=by
 rintro B o ⟨b,_,x,C,H,_,hB,h⟩
 rcases h with rfl|⟨i,c,I⟩
 ·let ⟨_,_,_,h,_⟩:=hM.blk H hB;exact h
 ·exact(hM.inn H hB I).1
theorem aI.inBoxes_lt{G:Gh}{w:World}{mem:aK}(hM:aI G w mem){ids:List Nat}: ∀B o,aW G w mem ids B o->B<w.heap.size:=by
 rintro B o ⟨b,_,x,C,H,_,hB,h⟩
 rcases h with rfl|⟨i,c,I⟩
 ·exact hM.blkSz H hB
 ·exact(hM.inn H hB I).2.1
theorem aW.mono{G:Gh}{w:World}{mem:aK}{ids H:List Nat}(h: ∀b∈ids,b∈H){B o:Nat}(J:aW G w mem ids B o):aW G w mem H B o:=by
 obtain⟨b,I,r⟩:=J;exact⟨b,h b I,r⟩
theorem Mh{r:aX}(h:r.isOwn=false):r.okShut=true:=by cases r<;>first|rfl|cases h
theorem Ot{r:aX}(h:r.isOwn=false):r.shut=r:=by cases r<;>first|rfl|cases h
theorem Ea(r:aX):r.shut.isOwn=false:=by cases r<;>rfl
theorem Nk(r:aX):r.shut.e=r.e:=by cases r<;>rfl
theorem IK(r:aX):r.shut.len=r.len:=by cases r<;>rfl
theorem LP(r:aX):r.shut.isInts=r.isInts:=by cases r<;>rfl
theorem KD(r:aX):r.shut.isCells=r.isCells:=by cases r<;>rfl
theorem aW.one{G:Gh}{w:World}{mem:aK}{ids:List Nat}{b:Nat}{x:bG}{L:BI}{B o:Nat}(J:b∈ids)(H:mem[b]?=some (some x))(K:x.row.isOwn=false)(I:G.loc b x.gen=some L)(hB:L.blk=some B):aW G w mem ids B o:=
 ⟨b,J,x,B,H,Mh K,⟨L,I,hB⟩,.inl rfl⟩
theorem dH(mem:aK): ∀(ids:List Nat) (m:aK) (b:Nat),m.length=mem.length->
  (∀x,mem[b]?=some (some x)->x.row.okShut=true->b∈ids->(aM m (bV mem ids))[b]?=some (some {x with frz:=true,row:=x.row.shut}))/\
  ((b∉ids\/∀x,mem[b]?=some (some x)->x.row.okShut=false)->(aM m (bV mem ids))[b]?=m[b]?)/\(aM m (bV mem ids)).length=mem.length
 | [],m,b,N=>⟨λx _ _ h=>by simp at h,λ_=>rfl,N⟩
 |a::r,m,b,N=>by
  unfold bV;split
  ·rename_i x V;have Z:a<m.length:=by rw[N];exact(yd.1 V).1
   cases K:x.row.okShut with
   |true=>
    simp only[yl,aM];obtain⟨O,M,U⟩:=dH mem r (m.set a (some {x with frz:=true,row:=x.row.shut})) b (by simpa using N);refine⟨λy J I H=>?_,λH=>?_,U⟩
    ·by_cases hr:b∈r
     ·exact O y J I hr
     ·have:b=a:=by simp at H;exact H.resolve_right hr
      subst this;rw[M (.inl hr),yw Z];rw[V]at J;simp at J;subst J;rfl
    ·have Y:a≠b:=by
      rintro rfl
      rcases H with H|H
      ·exact H (ym ..)
      ·rw[H x V]at K;cases K
     rw[M (H.imp (λh hr=>h (yg _ hr)) id),yp Y]
   |false=>
    simp only[yj];obtain⟨O,M,U⟩:=dH mem r m b N;refine⟨λy J I H=>?_,λH=>M (H.imp (λh hr=>h (yg _ hr)) id),U⟩;have:b≠a:=by rintro rfl;rw[V]at J;simp at J;subst J;rw[I]at K;cases K
    exact O y J I (by simp at H;exact H.resolve_left this)
  ·rename_i W;obtain⟨O,M,U⟩:=dH mem r m b N;refine⟨λy J I H=>?_,λH=>M (H.imp (λh hr=>h (yg _ hr)) id),U⟩;have:b≠a:=by rintro rfl;exact W y J
   exact O y J I (by simp at H;exact H.resolve_left this)
theorem fN.shut{G:Gh}{w:World}{B a:Nat}{r:aX}(S:Nat->Nat->Prop)(h:fN G w B a r)(ho:r.isOwn=true)(hok:r.okShut=true)(hS: ∀i c B',cA w B r i c B'->∀o,S B' o):fN (G.frz S) w B a r.shut:=by
 cases r with
 |own e xs hs=>
  cases hs with
  |cons _ _=>cases hok
  |nil=>
   obtain⟨_,hl,hc⟩:=h;refine⟨hl,λi x c y K h2=>?_⟩;obtain⟨v,hv,W,Z⟩:=hc i x c y K h2;refine⟨v,hv,W,?_⟩;rcases Z with ⟨u,rfl,rfl⟩|⟨row,H,Z⟩
   ·exact .lit _ W
   ·have V: ∀B' M n cap,v= .slice (some ⟨B',M,none⟩) n cap->∀o,S B' o:=λB' M n cap hvv=>hS i c B' ⟨⟨x,y,row,K,h2,H⟩,rfl,M,n,cap,by rw[hv,hvv]⟩;cases y with
    |ints k ys=>
     obtain rfl:=ya H;rcases Z with ⟨rfl,h0⟩|⟨B',M,cap,rfl,U,I,_,_,_,_,hr,_⟩
     ·obtain rfl:=yo h0;exact .intsNil k _
     ·exact .ints k ys B' M cap I λj z hz=>⟨hr j z hz,.inr (V B' _ _ _ rfl _)⟩
    |sl e' ys=>
     simp only[cH]at H;rw[aA]at H;obtain⟨he,H⟩:=H;obtain rfl:=ya H;rcases Z with ⟨rfl,h0⟩|⟨B',M,cap,rfl,U,I,_,_,_,_,hr,_⟩
     ·obtain rfl:=yo h0;exact .slNil e' _
     ·obtain⟨hr1,J⟩:=hr;obtain rfl:=U rfl;refine .sl e' ys B' 0 cap (λi c=>(cl w B' (i*e'+c)).getD undef) (cE.1 he) I hr1 (λj z c q N Y=>?_) (λj z c q N Y=>?_) (λj z c q N Y=>?_)
      ·obtain⟨u,O,_,_⟩:=J j z c q N Y;rw[yy];exact⟨by rw[O];rfl,.inr (V B' _ _ _ rfl _)⟩
      ·obtain⟨u,O,K,_⟩:=J j z c q N Y;rw[O];exact K
      ·obtain⟨u,O,_,K⟩:=J j z c q N Y;rw[O];exact K.mono (λ_ _ h=> .inl h) (λ_ _ _=>rfl)
    |lit u=>simp[cH]at H
    |agg cs=>simp[cH]at H
 |_=>cases ho
theorem aI.freeze{G:Gh}{w:World}{mem:aK}(hM:aI G w mem)(ids:List Nat):aI (G.frz (aW G w mem ids)) w (aM mem (bV mem ids)):=by
 have hg:=cJ.frz G (aW G w mem ids) hM.inBoxes;have K: ∀(b:Nat) (y:bG),(aM mem (bV mem ids))[b]?=some (some y)->∃x,mem[b]?=some (some x)/\y.gen=x.gen/\((b∈ids/\x.row.okShut=true/\y.frz=true/\y.row=x.row.shut)\/((b∉ids\/x.row.okShut=false)/\y=x)):=by
  intro b y h;obtain⟨i1,i2,_⟩:=dH mem ids mem b rfl;by_cases Z: ∃x,mem[b]?=some (some x)
  ·obtain⟨x,I⟩:=Z;by_cases W:b∈ids/\x.row.okShut=true
   ·rw[i1 x I W.2 W.1]at h;simp at h;subst h;exact⟨x,I,rfl,.inl ⟨W.1,W.2,rfl,rfl⟩⟩
   ·have O:b∉ids\/x.row.okShut=false:=by
     by_cases h1:b∈ids
     ·exact .inr (by cases h2:x.row.okShut<;>simp_all)
     ·exact .inl h1
    rw[i2 (O.imp id (λh x' J=>by rw[I]at J;simp at J;subst J;exact h)),I]at h;simp at h;subst h;exact⟨x,I,rfl,.inr ⟨O,rfl⟩⟩
  ·rw[i2 (.inr (λx I=>absurd ⟨x,I⟩ Z))]at h;exact absurd ⟨y,h⟩ Z
 have V: ∀{b:Nat} {x y:bG} {B:Nat},y.gen=x.gen->d5 (G.frz (aW G w mem ids)) b y B->d5 G b x B:=by
  rintro b x y B hge ⟨L,Z,hB⟩;exact⟨L,by rw[<-hge];exact Z,hB⟩
 -- blocks of a box that stays as it is are not among those
 have hout: ∀{b:Nat} {x:bG} {B B':Nat},mem[b]?=some (some x)->(b∉ids\/x.row.okShut=false)->d5 G b x B->(B'=B\/∃i c,cA w B x.row i c B')->∀o,¬aW G w mem ids B' o:=by
  intro b x B B' I O hB h o hin;obtain⟨b2,hb2,x2,C,hx2,hok2,hC,h2⟩:=hin;have hne:b2≠b:=by
   rintro rfl
   rw[I]at hx2;simp at hx2;subst hx2;rcases O with h|h
   ·exact h hb2
   ·rw[hok2]at h;cases h
  have hO:iF G w mem b B':=⟨b2,x2,C,hne,hx2,hC,h2⟩
  rcases h with rfl|⟨i,c,U⟩
  ·exact hM.other_ne I hB hO rfl
  ·exact hM.other_inn I hB U hO
 refine⟨λb y h=>?_,λb g h=>?_,λb y g h hlt=>?_,λb b' y y' L L' B h h' l l' k k'=>?_,λb b' y y' B i c B' h k U h' k'=>?_,λb b' y y' B C i c i' c' B' h k U h' k' hi'=>?_,hM.own,λB o h=>?_,fun β B o h=>?_,hM.glob.mono (hg.prot true) λ_ _ _=>rfl⟩
 ·obtain⟨x,I,M,hc⟩:=K b y h;have W:=hM.box b x I;obtain⟨o,a0,Z,ha0,hm⟩:=W.loc;rcases hc with ⟨hb1,hok,hf,H⟩|⟨O,rfl⟩
  ·refine⟨by rw[H,Nk];exact W.e,o,a0,by rw[M,H,Nk,IK];exact Z,by rw[H,LP];exact ha0,?_⟩;cases o with
   |none=>rw[H,IK,KD];exact hm
   |some B=>
    obtain⟨h1,h2,h3,h4,h5⟩:=hm;have hB:d5 G b x B:=⟨_,Z,rfl⟩
    refine⟨h1,h2,h3,?_,λhff=>by rw[hf]at hff;cases hff⟩;rw[H];cases how:x.row.isOwn with
    |true=>exact h4.shut _ how hok λi c B' U o=>⟨b,hb1,x,B,I,hok,hB,.inr ⟨i,c,U⟩⟩
    |false=>rw[Ot how];exact h4.mono hg (Ev.refl G w) (λ_ _=>rfl) λi c B' U=>by rw[U.own]at how;cases how
  ·refine⟨W.e,o,a0,Z,ha0,?_⟩;cases o with
   |none=>exact hm
   |some B=>
    obtain⟨h1,h2,h3,h4,h5⟩:=hm;have hB:d5 G b y B:=⟨_,Z,rfl⟩
    refine⟨h1,h2,h3,h4.mono hg (Ev.refl G w) (λ_ _=>rfl) (λi c B' U=>⟨.of rfl,fun β o Y=>?_⟩),λhf β o Y=>?_⟩
    ·rcases Y with Y|Y
     ·exact(hM.inn I hB U).2.2.2 β o Y
     ·exact hout I O hB (.inr ⟨i,c,U⟩) o Y
    ·rcases Y with Y|Y
     ·exact h5 hf β o Y
     ·exact hout I O hB (.inl rfl) o Y
 ·refine hM.unset b g λx I=>?_;obtain⟨i1,i2,_⟩:=dH mem ids mem b rfl;by_cases W:b∈ids/\x.row.okShut=true
  ·exact h _ (i1 x I W.2 W.1)
  ·have O:b∉ids\/∀x':bG,mem[b]?=some (some x')->x'.row.okShut=false:=by
    by_cases h1:b∈ids
    ·exact .inr λx' J=>by rw[I]at J;simp at J;subst J;cases h2:x.row.okShut<;>simp_all
    ·exact .inl h1
   exact h x (by rw[i2 O];exact I)
 ·obtain⟨x,I,M,hc⟩:=K b y h;exact hM.gens b x g I (by rw[<-M];exact hlt)
 ·obtain⟨x,I,M,hc⟩:=K b y h;obtain⟨x',J,N,hc'⟩:=K b' y' h';rw[M]at l;rw[N]at l';exact hM.apart b b' x x' L L' B I J l l' k k'
 ·obtain⟨x,I,M,hc⟩:=K b y h;obtain⟨x',J,N,hc'⟩:=K b' y' h';rcases hc with ⟨_,_,_,H⟩|⟨_,rfl⟩
  ·have:=U.own;rw[H,Ea]at this;cases this
  ·exact hM.inA b b' y x' B i c B' I (V rfl k) U J (V N k')
 ·obtain⟨x,I,M,hc⟩:=K b y h;obtain⟨x',J,N,hc'⟩:=K b' y' h';rcases hc with ⟨_,_,_,H⟩|⟨_,rfl⟩
  ·have:=U.own;rw[H,Ea]at this;cases this
  ·rcases hc' with ⟨_,_,_,H⟩|⟨_,rfl⟩
   ·have:=hi'.own;rw[H,Ea]at this;cases this
   ·exact hM.inB b b' y y' B C i c i' c' B' I (V rfl k) U J (V rfl k') hi'
 ·rcases h with h|h
  ·exact .inl (hM.lab B o h)
  ·exact .inr h
 ·rcases h with h|h
  ·exact hM.away β B o h
  ·exact hM.inBoxes_lt B o h
section
variable {P:Program}
theorem pS{α β:Type}{f:α->Option (Bool×β×List Nat)}: ∀{xs:List α} {r:Bool×List β×List Nat},fG f xs=some r->
  r.2.1.length=xs.length/\∀(i:Nat) (x:α),xs[i]?=some x->∃q,f x=some q/\r.2.1[i]?=some q.2.1/\(∀b∈q.2.2,b∈r.2.2)/\(r.1=false->q.1=false)
 | [],r,h=>by simp[fG]at h;subst h;exact⟨rfl,λi x H=>by simp at H⟩
 |v::xs,r,h=>by
  simp only[fG]at h;rw[bind_some]at h;obtain⟨a,O,h⟩:=h;rw[bind_some]at h;obtain⟨q,W,h⟩:=h;obtain rfl:=ya h;obtain⟨U,V⟩:=pS W;refine⟨by simp[U],λi x H=>?_⟩;cases i with
  |zero=>simp at H;subst H;exact⟨a,O,rfl,λb I=>yq1 _ I,λh=>by simp at h;exact h.1⟩
  |succ i=>
   obtain⟨Y,J,N,M,K⟩:=V i x (by simpa using H);exact⟨Y,J,by simpa using N,λb I=>yr1 _ (M b I),λh=>K (by simp at h;exact h.2)⟩
theorem rL{α β γ:Type}{f:γ->α->Option (Bool×β×List Nat)}: ∀{ls:List γ} {xs:List α} {r:Bool×List β×List Nat},bY f ls xs=some r->
  r.2.1.length=xs.length/\ls.length=xs.length/\∀(i:Nat) (x:α),xs[i]?=some x->∃l q,ls[i]?=some l/\f l x=some q/\r.2.1[i]?=some q.2.1/\(∀b∈q.2.2,b∈r.2.2)/\(r.1=false->q.1=false)
 | [],[],r,h=>by simp[bY]at h;subst h;exact⟨rfl,rfl,λi x H=>by simp at H⟩
 |l::ls,v::xs,r,h=>by
  simp only[bY]at h;rw[bind_some]at h;obtain⟨a,V,h⟩:=h;rw[bind_some]at h;obtain⟨q,hq,h⟩:=h;obtain rfl:=ya h;obtain⟨W,J,Y⟩:=rL hq;refine⟨by simp[W],by simp[J],λi x H=>?_⟩;cases i with
  |zero=>simp at H;subst H;exact⟨l,a,rfl,V,rfl,λb I=>yq1 _ I,λh=>by simp at h;exact h.1⟩
  |succ i=>
   obtain⟨Z,q',U,K,O,N,M⟩:=Y i x (by simpa using H);exact⟨Z,q',by simpa using U,K,by simpa using O,λb I=>yr1 _ (N b I),λh=>M (by simp at h;exact h.2)⟩
 | [],_::_,r,h=>by simp[bY]at h
 |_::_,[],r,h=>by simp[bY]at h
theorem yL{α:Type}{e:Nat}: ∀{n:Nat} {cs:List α} {i:Nat},i<n->(chunks e n cs)[i]?=some ((cs.drop (i*e)).take e)
 |n+1,cs,0,h=>by simp[chunks]
 |n+1,cs,i+1,h=>by
  simp only[chunks,yd1];rw[yL (by omega),List.drop_drop];congr 3;rw[yj1];omega
theorem e9{α:Type}{e:Nat}: ∀{n:Nat} {cs:List α},(chunks e n cs).length=n
 |0,cs=>rfl
 |n+1,cs=>by simp[chunks,e9]
theorem sub_zero{r:aX}{o:Nat}{v:aL}(h:r.sub o 0=some v):(∃k,v= .ints k [])\/(∃β e,v= .pvs β e [])\/(∃e,v= .avs e []):=by
 cases r<;>simp only[aX.sub]at h<;>first|(cases h;done)|skip<;>rw[aA]at h<;>obtain⟨_,h⟩:=h<;>obtain rfl:=ya h<;>simp
theorem PR.intsZ{w:World}{J:Nat->Nat->Prop}(k:IntKind)(a:Option Addr)(H: ∀x,a=some x->x.spot=none):PR w J (.ints k []) (.slice a 0 0):=by
 cases a with
 |none=>exact .intsNil k _
 |some a=>obtain⟨B,o,s⟩:=a;obtain rfl:=H _ rfl;exact .ints k [] B o 0 (by simp) (λi x I=>by simp at I)
theorem PR.slZ{w:World}{K:Nat->Nat->Prop}{e:Nat}(J:1≤e)(a:Option Addr)(I: ∀x,a=some x->x.spot=none):PR w K (.sl e []) (.slice a 0 0):=by
 cases a with
 |none=>exact .slNil e _
 |some a=>obtain⟨B,o,s⟩:=a;obtain rfl:=I _ rfl;exact .sl e [] B o 0 (λ_ _=>undef) J (by simp) (λx H=>by simp at H) (λi x c y H=>by simp at H) (λi x c y H=>by simp at H) (λi x c y H=>by simp at H)
theorem NM{r:aX}{o n:Nat}{v:aL}(h:r.sub o n=some v):v.e=r.e:=by
 cases r<;>simp only[aX.sub]at h<;>first|(cases h;done)|skip<;>rw[aA]at h<;>obtain⟨_,h⟩:=h<;>obtain rfl:=ya h<;>rfl
theorem vV{k:IntKind}{b:Nat}{v:aL}{r:Bool×PV×List Nat}(h:bA.treeInts k b v=some r)(I:(∃k,v= .ints k [])\/(∃β e,v= .pvs β e [])\/(∃e,v= .avs e [])):
  ∃H,True/\r=(false,.ints H [],[b]):=by
 rcases I with ⟨H,rfl⟩|⟨β,e,rfl⟩|⟨e,rfl⟩
 ·simp only[bA.treeInts]at h;rw[aA]at h;obtain⟨_,h⟩:=h;exact⟨H,trivial,(ya h).symm⟩
 ·simp[bA.treeInts]at h
 ·simp only[bA.treeInts]at h;rw[aA]at h;obtain⟨_,h⟩:=h;simp[eM]at h;exact⟨k,trivial,h.symm⟩
theorem B6{f:LK->AV->Option (Bool×PV×List Nat)}{t:TypeId}{e b:Nat}{v:aL}{r:Bool×PV×List Nat}(h:bA.treeSl P f t e b v=some r)(I:(∃k,v= .ints k [])\/(∃β e,v= .pvs β e [])\/(∃e,v= .avs e [])):
  ∃β,v.e=e/\r=(β,.sl e [],[b]):=by
 rcases I with ⟨k',rfl⟩|⟨β,J,rfl⟩|⟨J,rfl⟩
 ·simp[bA.treeSl]at h
 ·simp only[bA.treeSl]at h;rw[aA]at h;obtain⟨H,h⟩:=h;obtain rfl:=bI.1 H;exact⟨β,rfl,(ya h).symm⟩
 ·simp only[bA.treeSl]at h;rw[aA]at h;obtain⟨H,h⟩:=h;simp only[yb]at H;obtain rfl:=bI.1 H.1;rw[bind_some]at h;obtain⟨ls,_,h⟩:=h;have:aP e ([]:List AV).length=0:=by
   have:=fW (n:=0) (cE.1 H.2) 0;simpa using this
  rw[this]at h;simp[chunks,fG]at h;exact⟨false,rfl,h.symm⟩
theorem wU{G:Gh}{w:World}{mem:aK}(hM:aI G w mem): ∀{n:Nat} {l:LK} {v:AV} {r:Bool×PV×List Nat} {cv:Value},bA P mem n l v=some r->VR G w v cv->
  PR w ((G.frz (aW G w mem r.2.2)).prot r.1) r.2.1 cv/\cv.oneCell'=true/\r.2.1.cells= [r.2.1]
 |0,l,v,r,cv,h,hv=>by simp[bA]at h
 |n+1,l,v,r,cv,h,hv=>by
  have frzPR: ∀{ids:List Nat} {β:Bool} {p:PV} {u:Value},PR w (G.prot β) p u->PR w ((G.frz (aW G w mem ids)).prot β) p u:=λV=>V.mono (λ_ _ h=> .inl h) (λ_ _ _=>rfl);have hints: ∀{k:IntKind} {b:Nat} {x:bG} {wv:aL} {q:Bool×PV×List Nat} {vs:List Value} {B o cap a:Nat},mem[b]?=some (some x)->x.row.isOwn=false->G.loc b x.gen=some ⟨some B,x.row.e,x.row.len,a⟩->bA.treeInts k b wv=some q->
    bH G w wv vs->(∀j u,vs[j]?=some u->cl w B (o+j)=some u)->wv.len≤cap->
    PR w ((G.frz (aW G w mem q.2.2)).prot q.1) q.2.1 (.slice (some ⟨B,o,none⟩) wv.len cap)/\q.2.1.cells= [q.2.1]:=by
   intro k b x wv q vs B o cap a H how hl M O K hcap;have hin: ∀o',aW G w mem [b] B o':=λo'=> .one (yb2.2 rfl) H how hl rfl;unfold bA.treeInts at M;split at M
   ·rename_i k' xs;rw[aA]at M;obtain⟨hk,M⟩:=M;obtain rfl:=ya M;obtain⟨hlen,_,hh⟩:=O;exact⟨.ints k' xs B o cap hcap (λi y N=>⟨K _ _ (hh i y N),.inr (hin _)⟩),rfl⟩
   ·rename_i e cs;rw[aA]at M;obtain⟨Z,M⟩:=M;obtain rfl:=bI.1 Z;obtain⟨xs,hxs,rfl⟩:=yc.1 M;obtain⟨hlen,_,hcnt,hh⟩:=O;have key: ∀{cs:List AV} {xs:List Int},eM k cs=some xs->xs.length=cs.length/\∀(i:Nat) (y:Int),xs[i]?=some y->cs[i]?=some (.lit (.int k y)):=by
     intro cs
     induction cs with
     |nil=>intro xs h;simp[eM]at h;subst h;exact⟨rfl,λi y N=>by simp at N⟩
     |cons c cs ih=>
      intro xs h;have hc: ∃k' z,c= .lit (.int k' z):=by
       cases c with
       |lit v=>cases v with
        |int k' z=>exact⟨k',z,rfl⟩
        |_=>simp[eM]at h
       |_=>simp[eM]at h
      obtain⟨k',z,rfl⟩:=hc;simp only[eM]at h;cases hk:fY k k' with
      |false=>rw[hk]at h;simp at h
      |true=>
       rw[hk]at h;rw[iV]at hk;subst hk;simp only[yl]at h;obtain⟨xs',h1,rfl⟩:=yc.1 h;obtain⟨i1,i2⟩:=ih h1;refine⟨by simp[i1],λi y N=>?_⟩;cases i with
       |zero=>simp at N;subst N;rfl
       |succ i=>simpa using i2 i y (by simpa using N)
    obtain⟨k1,k2⟩:=key hxs;have hle:aL.len (.avs 1 cs)=xs.length:=by rw[k1];rfl
    rw[hle];refine⟨.ints k xs B o cap (by rw[<-hle];exact hcap) (λi y N=>?_),rfl⟩;obtain⟨u,I,V⟩:=hh i _ (k2 i y N);obtain rfl:=V.lit_inv;exact⟨K _ _ I,.inr (hin _)⟩
   ·simp at M
  have hsl: ∀{t:TypeId} {e b:Nat} {x:bG} {wv:aL} {q:Bool×PV×List Nat} {vs:List Value} {B o cap a:Nat},mem[b]?=some (some x)->x.row.isOwn=false->G.loc b x.gen=some ⟨some B,x.row.e,x.row.len,a⟩->bA.treeSl P (bA P mem n) t e b wv=some q->
    1≤wv.e->bH G w wv vs->(∀j u,vs[j]?=some u->cl w B (o+j)=some u)->wv.len≤cap->
    PR w ((G.frz (aW G w mem q.2.2)).prot q.1) q.2.1 (.slice (some ⟨B,o,none⟩) wv.len cap)/\q.2.1.cells= [q.2.1]:=by
   intro t e b x wv q vs B o cap a H how hl M he1 O K hcap;have hin: ∀ids o',b∈ids->aW G w mem ids B o':=λids o' hb=> .one hb H how hl rfl;unfold bA.treeSl at M;split at M
   ·rename_i β e' xs;rw[aA]at M;obtain⟨Z,M⟩:=M;obtain rfl:=bI.1 Z;obtain rfl:=ya M;obtain⟨hlen,h1,hh1,hh2⟩:=O;refine⟨.sl e xs B o cap (λi c=>vs.getD (i*e+c) undef) he1 hcap hh1 (λi x c y H N=>?_) (λi x c y H N=>?_) (λi x c y H N=>?_),rfl⟩
    ·obtain⟨u,I,V⟩:=hh2 i x c y H N;rw[yi,I];exact⟨by rw[ys1];exact K _ _ I,.inr (hin _ _ (yb2.2 rfl))⟩
    ·obtain⟨u,I,V⟩:=hh2 i x c y H N;rw[yi,I];exact h1 u (yt I)
    ·obtain⟨u,I,V⟩:=hh2 i x c y H N;rw[yi,I];exact frzPR V
   ·rename_i e' cs;rw[aA]at M;obtain⟨Z,M⟩:=M;simp only[yb]at Z;obtain rfl:=bI.1 Z.1;rw[bind_some]at M;obtain⟨ls,hls,M⟩:=M;obtain⟨r0,hr0,rfl⟩:=yc.1 M;obtain⟨hlen,h1,hcnt,hh⟩:=O;obtain⟨fl,ff⟩:=pS hr0;rw[e9]at fl;have hcs:cs.length=aP e cs.length*e:=by rw[yh2];exact hcnt
    -- element i
    have hel: ∀i p,r0.2.1[i]?=some p->i<aP e cs.length/\p.cells.length=e/\∀c y,p.cells[c]?=some y->∃u,vs[i*e+c]?=some u/\PR w ((G.frz (aW G w mem (b::r0.2.2))).prot r0.1) y u:=by
     intro i p V;have hi:i<aP e cs.length:=by rw[<-fl];exact(yd.1 V).1
     obtain⟨q1,hq1,hp1,hb1,hlab1⟩:=ff i _ (yL hi);rw[V]at hp1;obtain rfl:=ya hp1;rw[bind_some]at hq1;obtain⟨q2,hq2,hq1⟩:=hq1;obtain⟨p',hp',rfl⟩:=yc.1 hq1;obtain⟨zl,zl2,zz⟩:=rL hq2;have hchl:((cs.drop (i*e)).take e).length=e:=by
      have h2:i*e+e≤cs.length:=by
       rw[hcs]
       calc i*e+e=(i+1)*e:=by rw[yj1];simp
        _≤_:=yz1 _ hi
      simp;omega
     have W:p'.cells=q2.2.1:=by
      unfold qZ at hp';split at hp'
      ·obtain rfl:=ya hp';rfl
      ·split at hp'
       ·rename_i c heq;obtain rfl:=ya hp'
        -- a single cell: what bA answers is no struct
        have hlen1:((cs.drop (i*e)).take e).length=1:=by rw[<-zl,heq];rfl
        obtain⟨lk,q3,_,h3,h4,_⟩:=zz 0 (((cs.drop (i*e)).take e)[0]'(by omega)) (yf _);have hcell0:cs[i*e]?=some (((cs.drop (i*e)).take e)[0]'(by omega)):=by
         have:=yf (l:=(cs.drop (i*e)).take e) (i:=0) (by omega);rw[yf1 (by omega),yz]at this;simp
        obtain⟨u,I,hvr⟩:=hh _ _ hcell0;have hone:=(wU hM h3 hvr).2.2;rw[heq]at h4;simp only[yo2,Option.some.injEq]at h4;rw[heq,h4];exact hone
       ·simp at hp'
      ·simp at hp'
     refine⟨hi,by rw[W,zl,hchl],λc y N=>?_⟩;rw[W]at N;have hc:c<e:=by have:=(yd.1 N).1;rw[zl,hchl]at this;exact this
     obtain⟨lk,q3,_,h3,h4,h5,h6⟩:=zz c (((cs.drop (i*e)).take e)[c]'(by omega)) (yf _);have hcell:cs[i*e+c]?=some (((cs.drop (i*e)).take e)[c]'(by omega)):=by
      have:=yf (l:=(cs.drop (i*e)).take e) (i:=c) (by omega);rw[yf1 (by omega),yz]at this;simp
     obtain⟨u,I,hvr⟩:=hh _ _ hcell;have hpr:=(wU hM h3 hvr).1;rw[N]at h4;obtain rfl:=ya h4;refine⟨u,I,hpr.mono (λB' o' hh=>?_) (λ_ _ _=>rfl)⟩;rcases hh with hh|hh
     ·left;cases hb:r0.1 with
      |false=>rw[h6 (hlab1 hb)]at hh;exact hh
      |true=>
       cases hq3:q3.1 with
       |false=>rw[hq3]at hh;exact hM.lab _ _ hh
       |true=>rw[hq3]at hh;exact hh
     ·exact .inr (hh.mono λb' hb'=>yg _ (hb1 b' (h5 b' hb')))
    have hwl:aL.len (.avs e cs)=r0.2.1.length:=by rw[fl];rfl
    rw[hwl];refine⟨.sl e r0.2.1 B o cap (λi c=>vs.getD (i*e+c) undef) he1 (by rw[<-hwl];exact hcap) (λx H=>?_) (λi x c y H N=>?_) (λi x c y H N=>?_) (λi x c y H N=>?_),rfl⟩
    ·obtain⟨i,hi,rfl⟩:=yw1 H;exact(hel i _ (yf hi)).2.1
    ·obtain⟨u,I,V⟩:=(hel i x H).2.2 c y N;rw[yi,I];exact⟨by rw[ys1];exact K _ _ I,.inr (hin _ _ (ym ..))⟩
    ·obtain⟨u,I,V⟩:=(hel i x H).2.2 c y N;rw[yi,I];exact h1 u (yt I)
    ·obtain⟨u,I,V⟩:=(hel i x H).2.2 c y N;rw[yi,I];exact V
   ·simp at M
  unfold bA at h;split at h
  ·rename_i k k' x;rw[aA]at h;obtain⟨hk,h⟩:=h;obtain rfl:=ya h;obtain rfl:=hv.lit_inv;exact⟨.lit _ rfl,rfl,rfl⟩
  ·obtain rfl:=ya h;obtain rfl:=hv.lit_inv;exact⟨.lit _ rfl,rfl,rfl⟩
  ·obtain rfl:=ya h;obtain rfl:=hv.lit_inv;exact⟨.lit _ rfl,rfl,rfl⟩
  ·rename_i k β k' xs;rw[aA]at h;obtain⟨hk,h⟩:=h;obtain rfl:=ya h;cases hv with
   |imm _ _ _ V hs=>exact⟨frzPR V,by cases V<;>rfl,rfl⟩
  ·rename_i k;obtain rfl:=ya h;obtain rfl:=hv.lit_inv;exact⟨.intsNil k _,rfl,rfl⟩
  ·rename_i k b g;rw[bind_some]at h;obtain⟨x,H,h⟩:=h;have J:=(box?_some H)
   have Z:=(hM.box b x J.1).e;rcases hM.at_msw H hv with ⟨B,a0,cap,rfl,hn,hl,ha0,hf,_,_,_,U,_⟩|⟨rfl,hz,hnc,_,hl⟩
   ·obtain⟨vs,hvs,K⟩:=U.toList Z (box?_own H) ha0;have:=hints (o:=a0) (cap:=cap) J.1 (box?_own H) (by rw[J.2];exact hl) h hvs (λj u I=>by rw[K _ (yd.1 I).1];exact I) (by rw[dC];exact hn);rw[dC]at this;exact⟨this.1,rfl,this.2⟩
   ·unfold bA.treeInts at h;obtain⟨gen,frz,row⟩:=x;cases row with
    |ints k' xs=>
     simp only[aX.len]at hz;have:=yo hz;subst this;simp only[aX.all]at h;rw[aA]at h;obtain⟨hk,h⟩:=h;obtain rfl:=ya h;exact⟨.intsNil _ _,rfl,rfl⟩
    |pvs β e xs=>simp[aX.all]at h
    |cells e cs=>simp[aX.isCells]at hnc
    |own e xs hs=>exact absurd (box?_own H) (by simp[aX.isOwn])
  ·rename_i k b g o m;rw[bind_some]at h;obtain⟨x,H,h⟩:=h;rw[bind_some]at h;obtain⟨wv,Y,h⟩:=h;have J:=(box?_some H)
   have Z:=(hM.box b x J.1).e;rcases hM.at_ms H hv with ⟨B,a0,cap,rfl,hn,hon,hl,ha0,hf,_,_,_,U,_⟩|⟨rfl,rfl,rfl,hz,_,hl⟩|⟨B,oo,rfl,ho,rfl,hon,_,hl⟩
   ·obtain⟨vs,hvs,K⟩:=U.toList Z (box?_own H) ha0;obtain⟨hv',hve,hvl,_⟩:=t4 Z Y hvs;have:=hints (o:=a0+o*x.row.e) (cap:=cap) J.1 (box?_own H) (by rw[J.2];exact hl) h hv' (λj u I=>by
     have hj:j<m*x.row.e:=by have:=(yd.1 I).1;rw[hv'.1,hve,hvl]at this;exact this
     rw[yf1 hj,yz]at I;rw[ys1,K _ (yd.1 I).1];exact I) (by rw[hvl];exact hn)
    rw[hvl]at this;exact⟨this.1,rfl,this.2⟩
   ·obtain⟨k',hk',hr⟩:=vV h (sub_zero Y);rw[hr];exact⟨PR.intsZ k' none (by simp),rfl,rfl⟩
   ·obtain⟨k',hk',hr⟩:=vV h (sub_zero Y);rw[hr];exact⟨PR.intsZ k' (some ⟨B,oo,none⟩) (by simp),rfl,rfl⟩
  ·rename_i t e β e' xs;rw[aA]at h;obtain⟨hk,h⟩:=h;obtain rfl:=ya h;cases hv with
   |imm _ _ _ V hs=>exact⟨frzPR V,by cases V<;>rfl,rfl⟩
  ·rename_i t e;obtain rfl:=ya h;obtain rfl:=hv.lit_inv;exact⟨.slNil e _,rfl,rfl⟩
  ·rename_i t e b g;rw[bind_some]at h;obtain⟨x,H,h⟩:=h;have J:=(box?_some H)
   have Z:=(hM.box b x J.1).e;rcases hM.at_msw H hv with ⟨B,a0,cap,rfl,hn,hl,ha0,hf,_,_,_,U,_⟩|⟨rfl,hz,hnc,_,hl⟩
   ·obtain⟨vs,hvs,K⟩:=U.toList Z (box?_own H) ha0;have:=hsl (o:=a0) (cap:=cap) J.1 (box?_own H) (by rw[J.2];exact hl) h (by rw[oH];exact Z) hvs (λj u I=>by rw[K _ (yd.1 I).1];exact I) (by rw[dC];exact hn);rw[dC]at this;exact⟨this.1,rfl,this.2⟩
   ·unfold bA.treeSl at h;obtain⟨gen,frz,row⟩:=x;cases row with
    |ints k' xs=>simp[aX.all]at h
    |pvs β e' xs=>
     simp only[aX.len]at hz;have:=yo hz;subst this;simp only[aX.all]at h;rw[aA]at h;obtain⟨hk,h⟩:=h;obtain rfl:=ya h;exact⟨.slNil _ _,rfl,rfl⟩
    |cells e cs=>simp[aX.isCells]at hnc
    |own e xs hs=>exact absurd (box?_own H) (by simp[aX.isOwn])
  ·rename_i t e b g o m;rw[bind_some]at h;obtain⟨x,H,h⟩:=h;rw[bind_some]at h;obtain⟨wv,Y,h⟩:=h;have J:=(box?_some H)
   have Z:=(hM.box b x J.1).e;rcases hM.at_ms H hv with ⟨B,a0,cap,rfl,hn,hon,hl,ha0,hf,_,_,_,U,_⟩|⟨rfl,rfl,rfl,hz,_,hl⟩|⟨B,oo,rfl,ho,rfl,hon,_,hl⟩
   ·obtain⟨vs,hvs,K⟩:=U.toList Z (box?_own H) ha0;obtain⟨hv',hve,hvl,_⟩:=t4 Z Y hvs;have:=hsl (o:=a0+o*x.row.e) (cap:=cap) J.1 (box?_own H) (by rw[J.2];exact hl) h (by rw[hve];exact Z) hv' (λj u I=>by
     have hj:j<m*x.row.e:=by have:=(yd.1 I).1;rw[hv'.1,hve,hvl]at this;exact this
     rw[yf1 hj,yz]at I;rw[ys1,K _ (yd.1 I).1];exact I) (by rw[hvl];exact hn)
    rw[hvl]at this;exact⟨this.1,rfl,this.2⟩
   ·have he':=NM Y;obtain⟨e',hk',hr⟩:=B6 h (sub_zero Y);rw[hr];exact⟨PR.slZ (by omega) none (by simp),rfl,rfl⟩
   ·have he':=NM Y;obtain⟨e',hk',hr⟩:=B6 h (sub_zero Y);rw[hr];exact⟨PR.slZ (by omega) (some ⟨B,oo,none⟩) (by simp),rfl,rfl⟩
  ·simp at h
end
end Go.Ab
end
section
namespace Go.Ab
variable [b3]
section
variable {P:Program}
theorem cZ{mem:aK}{v:AV}{rd:List Nat}{b:Nat}{x:bG}:({v,rd,wr:= [(b,x)]}:cU).apply mem=mem.set b (some x):=by simp[cU.apply,aM]
theorem nD(mem:aK): ∀(a b:List (Nat×bG)),aM mem (a++b)=aM (aM mem a) b
 | [],b=>rfl
 |(i,x)::a,b=>by simp only[yt2,aM];exact nD (mem.set i (some x)) a b
theorem Mg{mem:aK}{v:AV}{rd ids:List Nat}{b:Nat}{x:bG}:({v,rd,wr:=bV mem ids++ [(b,x)]}:cU).apply mem=(aM mem (bV mem ids)).set b (some x):=by
 simp[cU.apply,nD,aM]
theorem Ee{mem:aK}{v:AV}{q:Nat×Nat×List PV}(h:nA mem v=some q): ∃g x xs,((v= .msw q.1 g/\q.2.2=xs)\/∃n,v= .ms q.1 g 0 n/\n≤xs.length/\q.2.2=xs.take n)/\mem[q.1]?=some (some x)/\x.gen=g/\x.row= .own q.2.1 xs []/\x.frz=false:=by
 unfold nA at h;split at h
 ·rename_i b g;rw[bind_some]at h;obtain⟨x,I,h⟩:=h;obtain⟨K,J,_⟩:=boxO?_some I;split at h
  ·rename_i e xs hr;rw[aA]at h;obtain⟨H,h⟩:=h;obtain rfl:=ya h;exact⟨g,x,xs,.inl ⟨rfl,rfl⟩,K,J,hr,by simpa using H⟩
  ·cases h
 ·rename_i b g n;rw[bind_some]at h;obtain⟨x,I,h⟩:=h;obtain⟨K,J,_⟩:=boxO?_some I;split at h
  ·rename_i e xs hr;rw[aA]at h;obtain⟨H,h⟩:=h;simp only[yb,yq]at H;obtain rfl:=ya h;exact⟨g,x,xs,.inr ⟨n,rfl,cE.1 H.2,rfl⟩,K,J,hr,H.1⟩
  ·cases h
 ·cases h
theorem Nd{G:Gh}{w:World}{mem:aK}(hM:aI G w mem){b g e:Nat}{x:bG}{xs:List PV}{cv:Value}(S:Nat->Nat->Prop)(hm:mem[b]?=some (some x))(hg:x.gen=g)(H:x.row= .own e xs [])(hv:VR G w (.msw b g) cv)
  (hS: ∀B B' o,d5 G b x B->(B'=B\/∃i c,cA w B x.row i c B')->S B' o):PR w ((G.frz S).prot false) (.sl e xs) cv/\cv.oneCell'=true:=by
 subst hg;have Y:=(hM.box b x hm).e;cases hv with
 |msw _ _ cap L B W Z hn hf=>
  have hB:d5 G b x B:=⟨L,W,Z⟩
  obtain⟨a0,J,N,K,M,h3,h4,h5⟩:=hM.blk hm hB;rw[W]at J;obtain rfl:=ya J;obtain rfl:=N (by rw[H];rfl);have U:=h4.shut S (by rw[H];rfl) (by rw[H];rfl) (λi c B' hi o=>hS B B' o hB (.inr ⟨i,c,hi⟩));rw[H]at U hn Y⊢
  obtain⟨V,I⟩:=U;refine⟨.sl e xs B 0 cap (λi c=>(cl w B (i*e+c)).getD undef) Y hn V (λi x' c y K M=>?_) (λi x' c y K M=>?_) (λi x' c y K M=>?_),rfl⟩
  ·obtain⟨u,O,_,_⟩:=I i x' c y K M;rw[yy];exact⟨by rw[O];rfl,.inr (hS B B _ hB (.inl rfl))⟩
  ·obtain⟨u,O,K,_⟩:=I i x' c y K M;rw[O];exact K
  ·obtain⟨u,O,_,K⟩:=I i x' c y K M;rw[O];exact K
 |mswNil _ _ L W Z hn=>
  obtain⟨o,a0,J,N,hmm⟩:=(hM.box b x hm).loc;rw[W]at J;obtain rfl:=ya J;rw[H]at hn;obtain rfl:=yo hn;exact⟨.slNil e _,rfl⟩
theorem LY{G:Gh}{w:World}{mem:aK}(hM:aI G w mem){b g e n:Nat}{x:bG}{xs:List PV}{cv:Value}(S:Nat->Nat->Prop)(hm:mem[b]?=some (some x))(hg:x.gen=g)(I:x.row= .own e xs [])(hn:n≤xs.length)(hv:VR G w (.ms b g 0 n) cv)
  (hS: ∀B B' o,d5 G b x B->(B'=B\/∃i c,cA w B x.row i c B')->S B' o):PR w ((G.frz S).prot false) (.sl e (xs.take n)) cv/\cv.oneCell'=true:=by
 subst hg;have he:=(hM.box b x hm).e;cases hv with
 |ms _ _ _ _ cap L B Z hb hn' hon hf=>
  have hB:d5 G b x B:=⟨L,Z,hb⟩
  obtain⟨a0,O,ha0,K,M,h3,h4,h5⟩:=hM.blk hm hB;rw[Z]at O;obtain rfl:=ya O;obtain rfl:=ha0 (by rw[I];rfl);have V:=h4.shut S (by rw[I];rfl) (by rw[I];rfl) (λi c B' hi o=>hS B B' o hB (.inr ⟨i,c,hi⟩));rw[I]at V he⊢
  obtain⟨W,H⟩:=V;have J: ∀{i:Nat} {x':PV},(xs.take n)[i]?=some x'->xs[i]?=some x':=by
   intro i x' h;rw[yi1]at h;split at h
   ·exact h
   ·cases h
  have Y:(xs.take n).length=n:=by rw[yw2];omega
  have hz:0*x.row.e=0:=yx2 _;have N:PR w ((G.frz S).prot false) (.sl e (xs.take n)) (.slice (some ⟨B,0,none⟩) (xs.take n).length cap):=by
   refine .sl e (xs.take n) B 0 cap (λi c=>(cl w B (i*e+c)).getD undef) he (by rw[Y];exact hn') (λy hy=>W y (yu2 hy)) (λi x' c y K M=>?_) (λi x' c y K M=>?_) (λi x' c y K M=>?_)
   ·obtain⟨u,U,_,_⟩:=H i x' c y (J K) M;rw[yy];exact⟨by rw[U];rfl,.inr (hS B B _ hB (.inl rfl))⟩
   ·obtain⟨u,U,K,_⟩:=H i x' c y (J K) M;rw[U];exact K
   ·obtain⟨u,U,_,K⟩:=H i x' c y (J K) M;rw[U];exact K
  rw[Y]at N;rw[yx2,yy];exact⟨N,rfl⟩
 |msNil _ _ L Z hb=>exact⟨.slNil e _,rfl⟩
 |msZ _ _ _ B oo L Z hb ho hon=>omega
theorem BR{G:Gh}{w:World}{mem:aK}(hM:aI G w mem){l:LK}{v:AV}{r:Bool×PV×List Nat}{cv:Value}(h:iI P mem l v=some r)(N:VR G w v cv):
  PR w ((G.frz (aW G w mem r.2.2)).prot r.1) r.2.1 cv/\cv.oneCell'=true/\r.2.1.cells= [r.2.1]:=by
 unfold iI at h;split at h
 ·rename_i q V;split at h
  ·rw[aA]at h;obtain⟨U,h⟩:=h;obtain rfl:=bI.1 U;obtain rfl:=ya h;obtain⟨g,x,xs,M,hm,O,H,hf⟩:=Ee V;rcases M with ⟨rfl,I⟩|⟨n,rfl,hn,I⟩
   ·obtain⟨J,K⟩:=Nd hM (aW G w mem [q.1]) hm O H N (λB B' o hB h=>⟨q.1,yb2.2 rfl,x,B,hm,by rw[H];rfl,hB,h⟩);simp only[I];exact⟨J,K,rfl⟩
   ·obtain⟨J,K⟩:=LY hM (aW G w mem [q.1]) hm O H hn N (λB B' o hB h=>⟨q.1,yb2.2 rfl,x,B,hm,by rw[H];rfl,hB,h⟩);simp only[I];exact⟨J,K,rfl⟩
  ·cases h
 ·exact wU hM h N
theorem pL{G:Gh}{w:World}{mem:aK}(hM:aI G w mem){t:TypeId}{v:AV}{r:Bool×PV×List Nat}{cv:Value}(h:qH P mem t v=some r)(hv:VR G w v cv):
  r.2.1.cells.length=v.cells.length/\∀(j:Nat) (y:PV),r.2.1.cells[j]?=some y->∃u,cv.cells.toList[j]?=some u/\PR w ((G.frz (aW G w mem r.2.2)).prot r.1) y u/\u.oneCell'=true:=by
 unfold qH at h;rw[bind_some]at h;obtain⟨ls,hls,h⟩:=h;rw[bind_some]at h;obtain⟨q,hq,h⟩:=h;obtain⟨p,J,rfl⟩:=yc.1 h;obtain⟨zl,zl2,zz⟩:=rL hq;have hc:=hv.cells;have K: ∀(j:Nat) (y:PV),q.2.1[j]?=some y->∃u,cv.cells.toList[j]?=some u/\PR w ((G.frz (aW G w mem q.2.2)).prot q.1) y u/\u.oneCell'=true/\y.cells= [y]:=by
  intro j y V;have Y:j<v.cells.length:=by rw[<-zl];exact(yd.1 V).1
  obtain⟨lk,q3,_,W,Z,h5,h6⟩:=zz j (v.cells[j]) (yf Y);rw[V]at Z;obtain rfl:=ya Z;have U:j<cv.cells.toList.length:=by rw[<-hc.1];exact Y
  have N:=hc.2 j _ (yf Y);rw[yi,yf U]at N;obtain⟨t1,t2,t3⟩:=BR hM W N;refine⟨_,yf U,t1.mono (λB' o' H=>?_) (λ_ _ _=>rfl),t2,t3⟩;rcases H with H|H
  ·left;cases hb:q.1 with
   |false=>rw[h6 hb]at H;exact H
   |true=>
    cases O:q3.1 with
    |false=>rw[O]at H;exact hM.lab _ _ H
    |true=>rw[O]at H;exact H
  ·exact .inr (H.mono h5)
 have I:p.cells=q.2.1:=by
  unfold qZ at J;split at J
  ·obtain rfl:=ya J;rfl
  ·split at J
   ·rename_i c M;obtain rfl:=ya J;obtain⟨u,_,_,_,h⟩:=K 0 c (by rw[M];rfl);rw[M];exact h
   ·simp at J
  ·simp at J
 simp only;rw[I];exact⟨zl,λj y V=>by obtain⟨u,h1,h2,W,_⟩:=K j y V;exact⟨u,h1,h2,W⟩⟩
theorem bH.ofLRs{G:Gh}{w:World}{e:Nat}{cs:List AV}{vs:List Value}(h:gH G w cs vs)(K:iD cs=true)(I:cs.length=aP e cs.length*e):bH G w (.avs e cs) vs:=by
 refine⟨by rw[<-h.1];exact I,h.ones K,by rw[yh2];exact I,λj y H=>?_⟩;have J:j<vs.length:=by rw[<-h.1];exact(yd.1 H).1
 have:=h.2 j y H;rw[yi,yf J]at this;exact⟨_,yf J,this⟩
theorem Dy{G:Gh}{w:World}{mem:aK}{b:Nat}{row:aX}{vs:List Value}{rest:Array Value}{t:TypeId}(hM:aI G w mem)(M:mem[b]?=some none)(V:1≤row.e)(H:row.isOwn=false)
  (Z:bH G w row.all vs): ∃J,J=G.put b 0 ⟨some w.heap.size,row.e,row.len,0⟩/\cJ G J/\Ev G w (w.alloc (.cells (vs.toArray++rest) t))/\
   aI J (w.alloc (.cells (vs.toArray++rest) t)) (mem.set b (some {gen:=0,frz:=false,row}))/\J.loc b 0=some ⟨some w.heap.size,row.e,row.len,0⟩:=by
 have K:G.loc b 0=none:=hM.unset b 0 (λx U=>by rw[M]at U;cases U);have O:cJ G (G.put b 0 ⟨some w.heap.size,row.e,row.len,0⟩):=cJ.put (.inl K);have I:=Ev.alloc G w (.cells (vs.toArray++rest) t) hM.away;refine⟨_,rfl,O,I,hM.make M V (fN.ofList H (λ_=>rfl) (Z.mono O I) (λj u N=>?_)) (λi c B' W=>by rw[W.own]at H;cases H),Gh.put_self ..⟩;rw[yy,iN];have Y:=(yd.1 N).1;rw[yr2 (by simpa using Y)];simpa using N
theorem CP(t:TypeId)(c:Array Value)(w:World):(newRow t c).run P w= .ok ⟨w.heap.size,0,none⟩ (w.alloc (.cells c t)):=by
 simp[newRow]
theorem K2{G:Gh}{w:World}{mem:aK}{b n:Nat}{v:AV}{cv:Value}{t:TypeId}(hM:aI G w mem)(K:mem[b]?=some none)(O:VR G w v cv)(hn:v.cells.length=n)(h1:1≤n)(V:iD v.cells=true):
  ∃J,cJ G J/\Ev G w (w.alloc (.cells cv.cells t))/\aI J (w.alloc (.cells cv.cells t)) (mem.set b (some {gen:=0,frz:=false,row:= .cells 1 v.cells}))/\
   VR J (w.alloc (.cells cv.cells t)) (.ptr b 0 0 0) (.pointer (some ⟨w.heap.size,0,none⟩)):=by
 have U:v.cells.length=aP 1 v.cells.length*1:=by simp[aP,Nat.beq]
 obtain⟨J,rfl,M,H,I,N⟩:=Dy (row:= .cells 1 v.cells) (vs:=cv.cells.toList) (rest:= #[]) (t:=t) hM K (ya1 1) rfl (bH.ofLRs O.cells V U);simp only[yf2,Array.append_empty]at H I;refine⟨_,M,H,I,?_⟩;have:=VR.ptr (G:=G.put b 0 ⟨some w.heap.size,(aX.cells 1 v.cells).e,(aX.cells 1 v.cells).len,0⟩) (w:=w.alloc (.cells cv.cells t)) b 0 0 0 _ w.heap.size N rfl;simpa using this
theorem KQ{G:Gh}{w:World}{mem:aK}{o:Oper}{a:Act}{t:TypeId}{rs:Nat}{z:AV}(hM:aI G w mem)(Z:o.op= .alloc t)(N:mem[rs]?=some none)(W:zero? P t=some z)
  (O:1≤z.cells.length) (H:iD z.cells=true):
  jK P G w mem o a {v:= .ptr rs 0 0 0,wr:= [(rs,{gen:=0,frz:=false,row:= .cells 1 z.cells})]}:=by
 obtain⟨zv,J,M,_⟩:=IN W G w;obtain⟨U,V,I,K,Y⟩:=K2 (t:=t) hM N M rfl O H;refine⟨U,_,_,_,?_,.inl rfl,Y,V,I,by rw[cZ];exact K⟩;simp[execOp,Z,Instr.alloc,J,newVar,CP]
theorem Nb{G:Gh}{w:World}{mem:aK}{o:Oper}{a:Act}{t:TypeId}{x:Operand}{rs n:Nat}{v:AV}(hM:aI G w mem)(W:o.op= .box t x)(M:mem[rs]?=some none)(V:VR G w v (a.eval x))
  (hn:v.cells.length=n) (N:1≤n) (H:iD v.cells=true):
  jK P G w mem o a {v:= .ptr rs 0 0 0,wr:= [(rs,{gen:=0,frz:=false,row:= .cells 1 v.cells})]}:=by
 obtain⟨O,U,I,J,K⟩:=K2 (t:=t) hM M V hn N H;refine⟨O,_,_,_,?_,.inl rfl,K,U,I,by rw[cZ];exact J⟩;simp[execOp,W,Instr.box,newVar,CP]
theorem zM{t:TypeId}{n B o:Nat}{cv:Value}{w:World}(hn:gW P t=some n)(H:cv.cells.size=n)(M: ∀j,j<n->(cl w B (o+j)).isSome=true)(J: ∀j,j<n->w.frozen? ⟨B,o+j,none⟩=false)
  (K: ∀u∈cv.cells.toList,u.oneCell'=true):(storeVar t ⟨B,o,none⟩ cv).run P w= .ok () (w.setCells B o cv.cells.toList):=by
 have I:=run_storeCells_cells (P:=P) B o cv.cells.toList 0 w (by simpa[H]using M) (by simpa[H]using J) K;rw[yk1]at I;simp only[storeVar,Sem.run_bind,dZ hn,Result.andThen_ok,Sem.run_ite,H,ne_eq,not_true_eq_false,if_false,Sem.run_pure,I]
theorem jW: ∀{xs vs:List Value} {o j:Nat},o+xs.length≤vs.length->(bB vs o xs)[j]?=if o≤j/\j<o+xs.length then xs[j-o]? else vs[j]?
 | [],vs,o,j,h=>by simp[bB];omega
 |x::xs,vs,o,j,h=>by
  simp only[bB];simp only[ym2]at h;rw[jW (xs:=xs) (by simp;omega)];by_cases H:o+1≤j/\j<o+1+xs.length
  ·rw[if_pos H,if_pos (by simp;omega),show j-o=(j-(o+1))+1 by omega,yd1]
  ·rw[if_neg H];by_cases I:j=o
   ·subst I;rw[if_pos (by simp),yw (by omega)];simp
   ·rw[yp (by omega),if_neg (by simp;omega)]
theorem FR.sub{G:Gh}{w M:World}{mem:aK}{b:Nat}{x x':bG}{L:BI}{B:Nat}(hM:aI G w mem)(I:mem[b]?=some (some x))(hB:d5 G b x B)(hL:L.blk=some B)
  (V: ∀B',iF G w mem b B'->M.heap[B']?=w.heap[B']?) (J: ∀i c B',cA M B x'.row i c B'->cA w B x.row i c B'):FR G w M mem b x' L:=by
 have K4: ∀{C},L.blk=some C->C=B:=λh=>by rw[hL]at h;exact(ya h).symm
 refine⟨V,λC hC hO=>?_,λC hC i c B' H=>?_,λC hC i c N O B' H K=>?_⟩
 ·obtain rfl:=K4 hC;exact hM.other_ne I hB hO rfl
 ·obtain rfl:=K4 hC;have H:=J i c B' H;refine⟨hM.other_inn I hB H,?_⟩
  rintro rfl
  exact hM.inA b b x x _ i c _ I hB H I hB
 ·obtain rfl:=K4 hC;obtain⟨_,h,U⟩:=hM.inB b b x x _ _ i c N O B' I hB (J i c B' H) I hB (J N O B' K);exact⟨h,U⟩
theorem FZ{G:Gh}{w:World}{mem:aK}{b:Nat}{x:bG}{B a:Nat}{row':aX}{o:Nat}{xs:List Value}(hM:aI G w mem)(K:mem[b]?=some (some x))(O:G.loc b x.gen=some ⟨some B,x.row.e,x.row.len,a⟩)
  (M:x.frz=false) (J: ∀j,j<xs.length->(cl w B (o+j)).isSome=true) (Y:row'.e=x.row.e) (N:row'.len=x.row.len) (U:row'.isInts=false->a=0)
  (hr:Ev G w (w.setCells B o xs)->fN G (w.setCells B o xs) B a row') (V: ∀i c B',cA (w.setCells B o xs) B row' i c B'->cA w B x.row i c B'):
  Ev G w (w.setCells B o xs)/\aI G (w.setCells B o xs) (mem.set b (some {x with row:=row'})):=by
 have hb:=hM.box b x K;have hB:d5 G b x B:=⟨_,O,rfl⟩
 obtain⟨_,hl',_,Z,h2,h3,h4,h5⟩:=hM.blk K hB;have I:=Ev.setCells (G:=G) (vs:=xs) Z J (h5 M);have W:b<mem.length:=(yd.1 K).1;refine⟨I,?_⟩;have H:G.put b x.gen ⟨some B,x.row.e,x.row.len,a⟩=G:=by
  unfold Gh.put;congr 1;funext b' g';split
  ·rename_i hh;obtain⟨rfl,rfl⟩:=hh;exact O.symm
  ·rfl
 have:=hM.upd (x':={x with row:=row'}) (L:=⟨some B,x.row.e,x.row.len,a⟩) I W (.inr O) (.sub hM K hB rfl (λB' hO=>cY (w:=w) (hM.other_ne K hB hO) xs o w) V) (λg hg=>hM.gens b x g K hg) ?_
 ·rw[H]at this;exact this
 ·rw[H];exact⟨by show 1≤row'.e;rw[Y];exact hb.e,some B,a,by show G.loc b x.gen=some ⟨some B,row'.e,row'.len,a⟩;rw[Y,N];exact O,U,Z,by rw[j1];exact h2,h3.setCells,hr I,h5⟩
theorem AN{G:Gh}{w:World}{mem:aK}{b:Nat}{x:bG}{B a:Nat}{row':aX}{vs:List Value}{o:Nat}{xs:List Value}(hM:aI G w mem)(hx:mem[b]?=some (some x))(Z:G.loc b x.gen=some ⟨some B,x.row.e,x.row.len,a⟩)
  (K:x.frz=false) (N: ∀j,j<vs.length->cl w B (a+j)=vs[j]?) (ho:o+xs.length≤vs.length) (W:row'.e=x.row.e) (O:row'.len=x.row.len) (M:row'.isInts=false->a=0) (I:row'.isOwn=false)
  (hv:bH G w row'.all (bB vs o xs)):
  Ev G w (w.setCells B (a+o) xs)/\aI G (w.setCells B (a+o) xs) (mem.set b (some {x with row:=row'})):=by
 have H: ∀j,j<xs.length->(cl w B (a+o+j)).isSome=true:=by
  intro j hj;rw[ys1,N _ (by omega),yf (by omega)];rfl
 refine FZ hM hx Z K H W O M (λU=>fN.ofList I M (hv.mono (cJ.refl G) U) (λj u J=>?_)) (λi c B' Y=>by rw[Y.own]at I;cases I);rw[jW ho]at J;by_cases V:o≤j/\j<o+xs.length
 ·rw[if_pos V]at J;obtain⟨k,rfl⟩: ∃k,j=o+k:=⟨j-o,by omega⟩
  rw[<-ys1,i4 H (by omega)];rw[yc3,yf (by omega)]at J;exact J
 ·rw[if_neg V]at J;rw[gN (by omega),N _ (yd.1 J).1];exact J
end
end Go.Ab
end
section
namespace Go.Ab
variable [b3]
theorem n4{b:Nat}: ∀{l:List Nat},dL b l=true↔b∈l
 | []=>by simp[dL]
 |m::r=>by simp only[dL,yu1,bI,yl1,n4 (l:=r)];constructor<;>rintro(h|h)<;>first|exact .inl h.symm|exact .inr h
theorem Dr: ∀{xs vs:List PV} {o j:Nat},o+xs.length≤vs.length->(nG vs o xs)[j]?=if o≤j/\j<o+xs.length then xs[j-o]? else vs[j]?
 | [],vs,o,j,h=>by simp[nG];omega
 |x::xs,vs,o,j,h=>by
  simp only[nG];simp only[ym2]at h;rw[Dr (xs:=xs) (by simp;omega)];by_cases H:o+1≤j/\j<o+1+xs.length
  ·rw[if_pos H,if_pos (by simp;omega),show j-o=(j-(o+1))+1 by omega,yd1]
  ·rw[if_neg H];by_cases I:j=o
   ·subst I;rw[if_pos (by simp),yw (by omega)];simp
   ·rw[yp (by omega),if_neg (by simp;omega)]
section
variable {P:Program}
theorem GR{G:Gh}{w:World}{mem:aK}{t:TypeId}{a x:AV}{out:cU}{ca cx:Value}(hM:aI G w mem)(h:gZ P t mem a x=some out)(ha:VR G w a ca)(hx:VR G w x cx):
  out.v= .lit undef/\∃G' w',(Instr.storeAt t ca cx).run P w= .ok () w'/\cJ G G'/\Ev G w w'/\aI G' w' (out.apply mem):=by
 unfold gZ at h;split at h
 ·rename_i b g i c;rw[bind_some]at h;obtain⟨bx,hbx,h⟩:=h;rw[bind_some]at h;obtain⟨n,hn,h⟩:=h;rw[aA]at h;obtain⟨hg,h⟩:=h;simp only[yb,yq]at hg;obtain⟨N,J⟩:=hg;have J:=bI.1 J;obtain⟨hm,hgen⟩:=box?_some hbx;obtain⟨B,a0,rfl,hl,ha0,hmine,hB,hfz,hrow,hpr⟩:=hM.at_ptr hbx ha;have he:=(hM.box b bx hm).e;obtain⟨vs,hvs,hcl⟩:=hrow.toList he (box?_own hbx) ha0;have hxc:=hx.cells;have Z:cx.cells.size=n:=by rw[<-J];simpa using hxc.1.symm
  have hrun: ∀o,o+n≤vs.length->(∀u∈cx.cells.toList,u.oneCell'=true)->(Instr.storeAt t (.pointer (some ⟨B,a0+o,none⟩)) cx).run P w= .ok () (w.setCells B (a0+o) cx.cells.toList):=by
   intro o ho h1;have hsome: ∀j,j<n->(cl w B (a0+o+j)).isSome=true:=λj M=>by rw[ys1,hcl _ (by omega),yf (by omega)];rfl
   have:=zM (P:=P) hn Z hsome (λj M=>hfz.cell (hsome j M)) h1;simp[Instr.storeAt,Instr.sureAddr,this]
  obtain⟨gen,frz,row⟩:=bx;simp only at N hgen hl hvs hcl he ha0;subst hgen;split at h
  ·rename_i e cs O;simp only at O;subst O;rw[aA]at h;obtain⟨hc,h⟩:=h;simp only[yb]at hc;have hle:=cE.1 hc.1;obtain rfl:=ya h;refine⟨rfl,?_⟩;obtain⟨V,hv1,hcnt,hvv⟩:=hvs;have hcl2:vs.length=cs.length:=by rw[V];show aP e cs.length*e=cs.length;rw[yh2];exact hcnt.symm
   have hL:gH G w cs vs:=⟨hcl2.symm,λj y K=>by obtain⟨u,W,hp⟩:=hvv j y K;rw[yi,W];exact hp⟩
   have H:=hxc.ones hc.2;have hnew:=hL.setCells (i:=i*e+c) hxc;have I:bH G w (.avs e (setCells cs (i*e+c) x.cells)) (bB vs (i*e+c) cx.cells.toList):=by
    have hsl:(setCells cs (i*e+c) x.cells).length=cs.length:=kL (as:=cs);refine⟨?_,λu W=>?_,by rw[hsl];exact hcnt,λj y K=>?_⟩
    ·show _=aP e (setCells cs (i*e+c) x.cells).length*e;rw[gB,hsl,hcl2,yh2];exact hcnt
    ·obtain⟨j,M,rfl⟩:=yw1 W;have hg:=jW (xs:=cx.cells.toList) (vs:=vs) (o:=i*e+c) (j:=j) (by simp[Z];omega);rw[yf M]at hg;split at hg
     ·exact H _ (yt hg.symm)
     ·exact hv1 _ (yt hg.symm)
    ·have M:j<(bB vs (i*e+c) cx.cells.toList).length:=by rw[<-hnew.1];exact(yd.1 K).1
     have:=hnew.2 j y K;rw[yi,yf M]at this;exact⟨_,yf M,this⟩
   have hsl:(setCells cs (i*e+c) x.cells).length=cs.length:=kL (as:=cs);obtain⟨hev,hM'⟩:=AN (row':= .cells e (setCells cs (i*e+c) x.cells)) (o:=i*e+c) (xs:=cx.cells.toList) hM hm hl N hcl (by simp[Z];omega) rfl (by simp only[aX.len];rw[hsl]) (λ_=>ha0 rfl) rfl I;exact⟨G,_,hrun _ (by show i*e+c+n≤_;omega) H,cJ.refl G,hev,by rw[cZ];exact hM'⟩
  ·rename_i k xs O;simp only at O;subst O;split at h
   ·rename_i k' z _;rw[aA]at h;obtain⟨hc,h⟩:=h;simp only[yb]at hc;obtain⟨⟨hk,hc0⟩,hi⟩:=hc;rw[iV]at hk;subst hk;obtain rfl:=bI.1 hc0;have hi:=cE.1 hi;obtain rfl:=ya h;refine⟨rfl,?_⟩;obtain rfl:=hx.lit_inv;obtain⟨V,hv1,hvv⟩:=hvs;simp only[aX.all,aL.len,aL.e,yy2]at V;have hcells:(Value.int k z).cells.toList= [Value.int k z]:=rfl;have I:bH G w (.ints k (xs.set i z)) (bB vs i [Value.int k z]):=by
     refine⟨by simp[aL.len,aL.e,gB,V],λu W=>?_,λj y K=>?_⟩
     ·simp only[bB]at W;rcases yk2 W with h|h
      ·exact hv1 u h
      ·rw[h];rfl
     ·simp only[bB];by_cases e:j=i
      ·subst e;rw[yw (by omega)]at K⊢
       simp at K;rw[K]
      ·rw[yp (λx=>e x.symm)]at K⊢
       exact hvv j y K
    have hn1:n=1:=by rw[<-J];rfl
    subst hn1;obtain⟨hev,hM'⟩:=AN (row':= .ints k (xs.set i z)) (o:=i) (xs:= [Value.int k z]) hM hm hl N hcl (by simp;omega) rfl (by simp[aX.len]) (λh=>by cases h) rfl I;refine⟨G,_,?_,cJ.refl G,hev,by rw[cZ];exact hM'⟩;have:=hrun i (by omega) (by simp[hcells,Value.oneCell']);rw[hcells]at this;have e0:i*(aX.ints k xs).e+0=i:=by simp[aX.e]
    rw[e0];exact this
   ·simp at h
  ·rename_i β e xs O;simp only at O;subst O;rw[bind_some]at h;obtain⟨p,hp,h⟩:=h;rw[bind_some]at h;obtain⟨q,hq,h⟩:=h;rw[aA]at h;obtain⟨hc,h⟩:=h;simp only[yb,yq]at hc;obtain⟨⟨hce,hpl⟩,hnb⟩:=hc;have hce:=cE.1 hce;have hpl:=bI.1 hpl;have hnb:b∉q.2.2:=λhh=>by rw[n4.2 hh]at hnb;cases hnb
   obtain rfl:=ya h;refine⟨rfl,?_⟩;obtain⟨ql,qq⟩:=pL hM hq hx;have hM1:=hM.freeze q.2.2;have hg1:=cJ.frz G (aW G w mem q.2.2) hM.inBoxes;have hm1:(aM mem (bV mem q.2.2))[b]?=some (some ⟨gen,frz,.pvs β e xs⟩):=by
    rw[(dH mem q.2.2 mem b rfl).2.1 (.inl hnb)];exact hm
   have hvs1:bH (G.frz (aW G w mem q.2.2)) w (.pvs β e xs) vs:=hvs.mono hg1 (Ev.refl G w);obtain⟨V,hv1,hxl,hvv⟩:=hvs1;simp only[aL.len,aL.e]at V;simp only[aX.e]at he;have hi:=(yd.1 hp).1;have hpos:i*e+c+n≤vs.length:=by
    rw[V]
    calc i*e+c+n≤i*e+e:=by omega
     _=(i+1)*e:=by rw[yj1];simp
     _≤xs.length*e:=yz1 _ hi
   have H: ∀u∈cx.cells.toList,u.oneCell'=true:=by
    intro u W;obtain⟨j,M,rfl⟩:=yw1 W;have hj2:j<q.2.1.cells.length:=by rw[ql,hxc.1];exact M
    obtain⟨u',hu',_,h1⟩:=qq j _ (yf hj2);rw[yf M]at hu';obtain rfl:=ya hu';exact h1
   generalize hp':(bif n.beq e&&c.beq 0 then q.2.1 else PV.agg (nG p.cells c q.2.1.cells))=p';have hp'c: ∀(j:Nat),p'.cells[j]?=if c≤j/\j<c+n then q.2.1.cells[j-c]? else p.cells[j]?:=by
    intro j;have hqn:q.2.1.cells.length=n:=by rw[ql,J]
    cases U:(n.beq e&&c.beq 0)with
    |true=>
     rw[U]at hp';simp only[yl]at hp';subst hp';simp only[yb]at U;obtain rfl:=bI.1 U.1;obtain rfl:=bI.1 U.2;by_cases M:j<n
     ·rw[if_pos (by omega)];simp
     ·rw[if_neg (by omega),yb1 (by omega),yb1 (by omega)]
    |false=>
     rw[U]at hp';simp only[yj]at hp';subst hp'
     show(nG p.cells c q.2.1.cells)[j]?=_
     rw[Dr (by omega),hqn]
   have hp'l:p'.cells.length=e:=by
    have h1:p'.cells[e]?=none:=by rw[hp'c,if_neg (by omega),yb1 (by omega)]
    have h2: ∃y,p'.cells[e-1]?=some y:=by
     rw[hp'c];split
     ·rename_i hh;exact⟨_,yf (by rw[ql,J];omega)⟩
     ·exact⟨_,yf (by omega)⟩
    obtain⟨y,K⟩:=h2;have:=(yd.1 K).1;have:=List.getElem?_eq_none_iff.1 h1;omega
   have I:bH (G.frz (aW G w mem q.2.2)) w (.pvs (β||q.1) e (xs.set i p')) (bB vs (i*e+c) cx.cells.toList):=by
    have hg:=λj=>jW (xs:=cx.cells.toList) (vs:=vs) (o:=i*e+c) (j:=j) (by simp[Z];omega);have Y:=hM1.lab;refine⟨by simp[aL.len,aL.e,gB,V],λu W=>?_,λx hx=>?_,λi' x c' y hx K=>?_⟩
    ·obtain⟨j,M,rfl⟩:=yw1 W;have hg:=hg j;rw[yf M]at hg;split at hg
     ·exact H _ (yt hg.symm)
     ·exact hv1 _ (yt hg.symm)
    ·rcases yk2 hx with h|h
     ·exact hxl x h
     ·rw[h];exact hp'l
    ·have hc'e:c'<e:=by
      have h0:=(yd.1 K).1;have:x.cells.length=e:=by
       rcases yk2 (yt hx)with h|h
       ·exact hxl x h
       ·rw[h];exact hp'l
      omega
     rw[hg];simp only[yx1,Z];by_cases hii:i'=i
     ·subst hii;rw[yw hi]at hx;obtain rfl:=ya hx;rw[hp'c]at K;by_cases U:c≤c'/\c'<c+n
      ·rw[if_pos U]at K;rw[if_pos (by omega),show i'*e+c'-(i'*e+c)=c'-c by omega];obtain⟨u,W,hpu,_⟩:=qq _ y K;exact⟨u,W,hpu.weak' Y⟩
      ·rw[if_neg U]at K;rw[if_neg (by omega)];obtain⟨u,W,hpu⟩:=hvv i' p c' y hp K;exact⟨u,W,hpu.weak Y⟩
     ·rw[yp (λx=>hii x.symm)]at hx;obtain⟨u,W,hpu⟩:=hvv i' x c' y hx K;refine⟨u,?_,hpu.weak Y⟩;rw[if_neg ?_]
      ·exact W
      ·rintro⟨h1,h2⟩
       rcases Nat.lt_or_gt_of_ne hii with hlt|hlt
       ·have:i'*e+e≤i*e:=by
         calc i'*e+e=(i'+1)*e:=by rw[yj1];simp
          _≤i*e:=yz1 _ hlt
        omega
       ·have:i*e+e≤i'*e:=by
         calc i*e+e=(i+1)*e:=by rw[yj1];simp
          _≤i'*e:=yz1 _ hlt
        omega
   obtain⟨hev,hM'⟩:=AN (row':= .pvs (β||q.1) e (xs.set i p')) (o:=i*e+c) (xs:=cx.cells.toList) hM1 hm1 hl N hcl (by simp[Z];omega) rfl (by simp[aX.len]) (λ_=>ha0 rfl) rfl I;refine⟨_,_,hrun _ (by show i*e+c+n≤_;omega) H,hg1,?_,by rw[Mg];exact hM'⟩;have hjj: ∀j,j<cx.cells.toList.length->i*e+c+j<vs.length:=λj M=>by simp[Z]at M;omega
   exact Ev.setCells hmine (λj M=>by show(cl w B (a0+(i*e+c)+j)).isSome=true;rw[ys1,hcl _ (hjj j M),yf (hjj j M)];rfl) (hpr N)
  ·cases h
 ·simp at h
end
end Go.Ab
end
section
namespace Go.Ab
variable [b3]
section
variable {P:Program}
structure As (P:Program) (t et:TypeId) (s:Nat) (i:TypeInfo) (z:Value):Prop where
 under:P.underlying t=some (.slice et)
 info:P.info? et=some i
 size:i.size=s
 zero:i.zero=some z
 zsize:z.cells.size=s
 bytes:i.bytes≤4096
 one:1≤s
theorem qY{n bytes:Nat}(hn:n≤bF)(H:bytes≤4096):n*bytes≤140737488355328:=by
 have:n*bytes≤n*4096:=Nat.mul_le_mul_left n H;unfold bF at hn;omega
structure rA (G:Gh) (w:World) (mem:aK) (b g':Nat) (row':aX) (Bold:Option Nat) (vs:List Value):Prop where
 row: ∀(w1:World) (B' a:Nat),(row'.isInts=false->a=0)->Ev G w w1->(∀X,X<w.heap.size->Bold≠some X->w1.heap[X]?=w.heap[X]?)->(∀j u,vs[j]?=some u->cl w1 B' (a+j)=some u)->fN (G.put b g' ⟨some B',row'.e,row'.len,a⟩) w1 B' a row'
 inn: ∀(w1:World) (B' a i c X:Nat),(row'.isInts=false->a=0)->(∀j u,vs[j]?=some u->cl w1 B' (a+j)=some u)->cA w1 B' row' i c X->∃(x:bG) (B:Nat),mem[b]?=some (some x)/\d5 G b x B/\cA w B x.row i c X
theorem rA.plain{G:Gh}{w:World}{mem:aK}{b g':Nat}{row':aX}{Bold:Option Nat}{vs:List Value}(I:G.loc b g'=none)(K:row'.isOwn=false)(O:bH G w row'.all vs):rA G w mem b g' row' Bold vs:=
 ⟨λN B' a M H _ J=>fN.ofList K M (O.mono (cJ.put (.inl I)) H) J,λN B' a i c X _ _ h=>by rw[h.own]at K;cases K⟩
theorem Jv{G:Gh}{w K:World}{mem:aK}{b g':Nat}{row':aX}{B' a:Nat}{Bold:Option Nat}{vs:List Value}(J:row'.isInts=false->a=0)(hM:aI G w mem)(hb:b<mem.length)(hev:Ev G w K)(O: ∀g,g'≤g->G.loc b g=none)
  (he:1≤row'.e) (Y:G.mine B') (hlt:B'<K.heap.size) (hfz:fL K B') (hpr: ∀β o,¬G.prot β B' o)
  (I: ∀X,X<w.heap.size->Bold≠some X->K.heap[X]?=w.heap[X]?) (W: ∀X,iF G w mem b X->Bold≠some X) (H:B'=w.heap.size\/∃x,mem[b]?=some (some x)/\d5 G b x B'/\Bold=some B')
  (hv:rA G w mem b g' row' Bold vs) (N: ∀j u,vs[j]?=some u->cl K B' (a+j)=some u):
  ∃G',cJ G G'/\G'.loc b g'=some ⟨some B',row'.e,row'.len,a⟩/\aI G' K (mem.set b (some {gen:=g',frz:=false,row:=row'})):=by
 have hg:cJ G (G.put b g' ⟨some B',row'.e,row'.len,a⟩):=cJ.put (.inl (O g' (ya1 _)));have hBne: ∀X,iF G w mem b X->X≠B':=by
  intro X hO;rcases H with rfl|⟨x,V,hB,_⟩
  ·exact Nat.ne_of_lt (hM.other hO).2.1
  ·exact hM.other_ne V hB hO
 refine⟨_,hg,Gh.put_self ..,hM.upd (x':={gen:=g',frz:=false,row:=row'}) hev hb (.inl (O g' (ya1 _))) ⟨λX hO=>I X (hM.other hO).2.1 (W X hO),λC hC hO=>?_,λC hC i c X Z=>?_,λC hC i c i2 c2 X Z U=>?_⟩ (λg hg=>O g (Nat.le_of_lt hg)) ?_⟩
 ·simp only[Option.some.injEq]at hC;subst hC;exact hBne _ hO rfl
 ·simp only[Option.some.injEq]at hC;subst hC;obtain⟨x,B,V,hB,M⟩:=hv.inn K B' a i c X J N Z;refine⟨hM.other_inn V hB M,?_⟩;rcases H with hp|⟨x',hx',hB',_⟩
  ·rw[hp];exact Nat.ne_of_lt (hM.inn V hB M).2.1
  ·intro hXB;rw[hXB]at M;exact hM.inA b b x x' B i c _ V hB M hx' hB'
 ·simp only[Option.some.injEq]at hC;subst hC;obtain⟨x,B,V,hB,Z⟩:=hv.inn K B' a i c X J N Z;obtain⟨x2,B2,hx2,hB2,U⟩:=hv.inn K B' a i2 c2 X J N U;exact(hM.inB b b x x2 B B2 i c i2 c2 X V hB Z hx2 hB2 U).2
 ·exact⟨he,some B',a,Gh.put_self ..,J,Y,hlt,hfz,hv.row K B' a J hev I N,λ_=>hpr⟩
theorem AB{G:Gh}{w:World}{mem:aK}{b g':Nat}{row':aX}(hM:aI G w mem)(N:b<mem.length)(H: ∀g,g'≤g->G.loc b g=none)
  (M:1≤row'.e) (K:row'.len=0) (O:row'.isCells=false):
  ∃I,cJ G I/\I.loc b g'=some ⟨none,row'.e,row'.len,0⟩/\aI I w (mem.set b (some {gen:=g',frz:=false,row:=row'})):=by
 have J:cJ G (G.put b g' ⟨none,row'.e,row'.len,0⟩):=cJ.put (.inl (H g' (ya1 _)));refine⟨_,J,Gh.put_self ..,hM.upd (x':={gen:=g',frz:=false,row:=row'}) (Ev.refl G w) N (.inl (H g' (ya1 _))) ⟨λ_ _=>rfl,λ_ h=>(nomatch h),λ_ h=>(nomatch h),λ_ h=>(nomatch h)⟩ (λg J=>H g (Nat.le_of_lt J)) ?_⟩;exact⟨M,none,0,Gh.put_self ..,λ_=>rfl,K,O⟩
theorem n9(w:World)(c:Array Value)(t:TypeId):(∀B,B<w.heap.size->(w.drew.alloc (.cells c t)).heap[B]?=w.heap[B]?)/\(w.drew.alloc (.cells c t)).heap.size=w.heap.size+1/\
  (∀j,cl (w.drew.alloc (.cells c t)) w.heap.size j=c[j]?)/\fL (w.drew.alloc (.cells c t)) w.heap.size:=by
 refine⟨λB hB=>?_,by simp,λj=>?_,?_⟩
 ·have:=eH (w:=w.drew) (o:= .cells c t) (B:=B) (by simpa using hB);rw[this];rfl
 ·have:=iN (w:=w.drew) (c:=c) (t:=t) (fr:=(0,0)) (j:=j);simpa using this
 ·exact fL.alloc (w:=w.drew)
theorem Ev.drew_alloc(G:Gh)(w:World)(o:Obj)(H: ∀β B x,G.prot β B x->B<w.heap.size)(I: ∃c t,o= .cells c t:=by exact⟨_,_,rfl⟩):Ev G w (w.drew.alloc o):=
 (Ev.drew G w).trans (cJ.refl G) (Ev.alloc G w.drew o H I)
theorem CT{G:Gh}{w:World}{mem:aK}{b g':Nat}{row':aX}{t K ty tx:TypeId}{s:Nat}{i:TypeInfo}{z:Value}{base:Option Addr}{len cap n:Nat}{olds H:List Value}{y:Value}
    (hM:aI G w mem) (hb:b<mem.length) (hno: ∀g,g'≤g->G.loc b g=none) (hE:As P t K s i z)
    (Y:(Builtin.firstCells i.size len (.slice base len cap)).run P w.drew= .ok olds.toArray w.drew) (hol:olds.length=len*s) (hs:Src P s tx y n H w)
    (J:cap<len+n) (I:len+n≤bF) (he:row'.e=s) (N:row'.len=len+n) {Bold:Option Nat} (U: ∀X,iF G w mem b X->Bold≠some X) (hv:rA G w mem b g' row' Bold (olds++H)):
    ∃V w1 cv,(Builtin.append_ #[t,tx] ty #[.slice base len cap,y]).run P w= .ok cv w1/\VR V w1 (.msw b g') cv/\cJ G V/\Ev G w w1/\aI V w1 (mem.set b (some {gen:=g',frz:=false,row:=row'})):=by
  have Z:=growslice_fits (bytes:=i.bytes) J (qY I hE.bytes);have M:=run_append_grow_src (P:=P) w t tx ty K i z hE.under hE.info hE.zero base len cap olds Y y n H (by rw[hE.size];exact hs) J (by unfold bF at I;omega) Z;generalize hc:(olds++H).toArray++Builtin.zeroCells z.cells (grownCap w (len+n) cap K-(len+n))=c at M;obtain⟨f1,f2,f3,f4⟩:=n9 w c K;have W:=Ev.drew_alloc G w (.cells c K) hM.away;have O:len+n≤grownCap w (len+n) cap K:=grownCap_ge w _ _ _;have hcl: ∀j u,(olds++H)[j]?=some u->cl (w.drew.alloc (.cells c K)) w.heap.size (0+j)=some u:=by
    intro j u hu;rw[yy,f3,<-hc,yr2 (by simpa using(yd.1 hu).1)];simpa using hu
  obtain⟨V,hg,hl,hM'⟩:=Jv (row':=row') (B':=w.heap.size) (a:=0) (vs:=olds++H) (λ_=>rfl) hM hb W hno (by rw[he];exact hE.one) (hM.own _ (ya1 _)) (by rw[f2];omega) f4
    (fun β o hp=>absurd (hM.away β _ o hp) (Nat.lt_irrefl _)) (λX hX _=>f1 X hX) U (.inl rfl) hv hcl
  refine⟨V,_,_,M,?_,hg,W,hM'⟩;generalize grownCap w (len+n) cap K=C at hc O⊢
  have hk:VR V (w.drew.alloc (.cells c K)) (.msw b g') (.slice (some ⟨w.heap.size,0,none⟩) row'.len C):=by
   refine .msw b g' _ _ w.heap.size hl rfl (by simp only;rw[N];exact O) (λj hj=>?_);simp only[he,yy]at hj;rw[f3,<-hc];have hn:=hs.newsLen;rw[yo1 (by
    simp only[Array.size_append,List.size_toArray,ym1,size_zeroCells,hol,hn,hE.zsize];rw[<-yj1,<-yj1];exact yy1 hj (yz1 _ (by omega)))]
   rfl
  rw[N]at hk;exact hk
theorem yI{G:Gh}{w:World}{mem:aK}{b:Nat}{x:bG}{row':aX}{B a a1 cap H J:Nat}{vs0 I:List Value}{t et ty tx:TypeId}{s:Nat}{i:TypeInfo}{z:Value}{y:Value}
  (hM:aI G w mem) (hx:mem[b]?=some (some x)) (hl:G.loc b x.gen=some ⟨some B,x.row.e,x.row.len,a⟩) (hia:row'.isInts=false->a1=0) (W:x.frz=false) (hE:As P t et s i z)
  (U:vs0.length=H*s) (hcl0: ∀j u,vs0[j]?=some u->cl w B (a1+j)=some u) (hcap:H≤cap) (hfit:AQ w B (a1+cap*s))
  (hs:Src P s tx y J I w) (hre:row'.e=s) (V:row'.len=H+J) (hok:rA G w mem b (x.gen+1) row' (some B) (vs0++I)) (hmost:row'.len≤bF):
  ∃G' w1 cv,(Builtin.append_ #[t,tx] ty #[.slice (some ⟨B,a1,none⟩) H cap,y]).run P w= .ok cv w1/\VR G' w1 (.msw b (x.gen+1)) cv/\cJ G G'/\Ev G w w1/\
   aI G' w1 (mem.set b (some {gen:=x.gen+1,frz:=false,row:=row'})):=by
 have hbl:b<mem.length:=(yd.1 hx).1;have hno: ∀g,x.gen+1≤g->G.loc b g=none:=λg hg=>hM.gens b x g hx hg;have hB:d5 G b x B:=⟨_,hl,rfl⟩
 have hnl:=hs.newsLen;have N: ∀X,iF G w mem b X->some B≠some X:=λX hO h=>hM.other_ne hx hB hO (ya h).symm;by_cases M:H+J≤cap
 ·obtain⟨_,_,_,h1,h2,h3,h4,h5⟩:=hM.blk hx hB;have K: ∀j,j<I.length->(cl w B (a1+H*s+j)).isSome=true:=by
   intro j Z;refine hfit _ ?_;rw[hnl]at Z;rw[ys1];refine Nat.add_lt_add_left ?_ _
   calc H*s+j<H*s+J*s:=by omega
    _=(H+J)*s:=by rw[yj1]
    _≤cap*s:=yz1 _ M
  have Y:=run_append_room_src (P:=P) w t tx ty et i hE.under hE.info B a1 H cap y J I (by rw[hE.size];exact hs) M
   (λj Z=>by rw[hE.size];exact K j Z) (λj Z=>by rw[hE.size];exact h3.cell (K j Z))
  rw[hE.size]at Y;have hev:=Ev.setCells (G:=G) (vs:=I) h1 K (h5 W);have hcl: ∀j u,(vs0++I)[j]?=some u->cl (w.setCells B (a1+H*s) I) B (a1+j)=some u:=by
   intro j u O;by_cases Z:j<vs0.length
   ·rw[yn Z]at O;rw[gN (by rw[<-U];exact .inl (Nat.add_lt_add_left Z _))];exact hcl0 j u O
   ·rw[yu (by omega)]at O;obtain⟨k,rfl⟩: ∃k,j=H*s+k:=⟨j-vs0.length,by omega⟩
    rw[U,yc3]at O;have hk:=(yd.1 O).1;rw[<-ys1,i4 K hk];rw[yf hk]at O;exact O
  obtain⟨G',hg,hl2,hM'⟩:=Jv (row':=row') (B':=B) (a:=a1) (Bold:=some B) (vs:=vs0++I) hia hM hbl hev hno (by rw[hre];exact hE.one) h1 (by rw[j1];exact h2)
   h3.setCells (h5 W) (λX _ hX=>cY (w:=w) (λh=>hX (by rw[h])) I _ w) N (.inr ⟨x,hx,hB,rfl⟩) hok hcl
  refine⟨G',_,_,Y,?_,hg,hev,hM'⟩;have hk:VR G' (w.setCells B (a1+H*s) I) (.msw b (x.gen+1)) (.slice (some ⟨B,a1,none⟩) row'.len cap):=by
   refine .msw b (x.gen+1) cap _ B hl2 rfl (by simp only;rw[V];exact M) ?_;simp only[hre];exact hfit.mono hev
  rw[V]at hk;exact hk
 ·refine CT (row':=row') (olds:=vs0) (s:=s) hM hbl hno hE ?_ U hs (by omega) (by rw[<-V];exact hmost) hre V N hok;rw[hE.size];exact run_firstCells_some w.drew s H ⟨B,a1,none⟩ H cap vs0 U (λj u O=>by rw[cO];exact hcl0 j u O)
theorem Ei{G:Gh}{w:World}{mem:aK}{b:Nat}{x:bG}{xv yv K:aL}{B a a1 cap:Nat}{vs0 H:List Value}{t et ty tx:TypeId}{s:Nat}{i:TypeInfo}{z:Value}{y:Value}
  (hM:aI G w mem) (hx:mem[b]?=some (some x)) (hl:G.loc b x.gen=some ⟨some B,x.row.e,x.row.len,a⟩) (hia:K.row.isInts=false->a1=0) (M:x.frz=false) (hE:As P t et s i z) (hse:s=x.row.e)
  (N:xv.e=s) (O:bH G w xv vs0) (V: ∀j u,vs0[j]?=some u->cl w B (a1+j)=some u) (U:xv.len≤cap) (W:AQ w B (a1+cap*s))
  (hs:Src P s tx y yv.len H w) (J:bH G w yv H) (Y:xv.app P et yv=some K) (I:K.len≤bF):
  ∃G' Z cv,(Builtin.append_ #[t,tx] ty #[.slice (some ⟨B,a1,none⟩) xv.len cap,y]).run P w= .ok cv Z/\VR G' Z (.msw b (x.gen+1)) cv/\cJ G G'/\Ev G w Z/\
   aI G' Z (mem.set b (some {gen:=x.gen+1,frz:=false,row:=K.row})):=by
 obtain⟨hz,hze,hze2,hzl⟩:=Az hM.lab Y O J;exact yI hM hx hl hia M hE (by rw[O.1,N]) V U W hs (by rw[jP,hze,N]) (by rw[e4,hzl])
  (.plain (hM.gens b x _ hx (yj2 _)) (iM K) (by rw[iT];exact hz)) (by rw[e4];exact I)
theorem kC{G:Gh}{w:World}{mem:aK}{b g':Nat}{row':aX}{n:Nat}{H:List Value}{t Y ty U:TypeId}{s:Nat}{i:TypeInfo}{z:Value}{y:Value}
  (hM:aI G w mem) (W:b<mem.length) (M: ∀g,g'≤g->G.loc b g=none) (hE:As P t Y s i z) (hs:Src P s U y n H w) (hn:n≤bF) (V:row'.e=s) (I:row'.len=n) (hv:rA G w mem b g' row' none H)
  (hc:n=0->row'.isCells=false):
  ∃K N cv,(Builtin.append_ #[t,U] ty #[.slice none 0 0,y]).run P w= .ok cv N/\VR K N (.msw b g') cv/\cJ G K/\Ev G w N/\
   aI K N (mem.set b (some {gen:=g',frz:=false,row:=row'})):=by
 by_cases h0:n=0
 ·subst h0;have J:H= []:=yo (by rw[hs.newsLen];simp);subst J;obtain⟨K,Z,hl,O⟩:=AB (row':=row') hM W M (by rw[V];exact hE.one) I (hc rfl);exact⟨K,w,_,run_append_nothing (P:=P) w t U ty Y i hE.under hE.info none 0 0 (ya1 _) y (by rw[hE.size];exact hs),.mswNil b g' _ hl rfl I,Z,Ev.refl G w,O⟩
 ·exact CT (row':=row') (olds:= []) (base:=none) (len:=0) (cap:=0) hM W M hE (run_firstCells_none w.drew i.size 0 0 0) (by simp) hs (by omega) (by omega) V (by omega) (Bold:=none) (λ_ _ h=>by cases h) (by simpa using hv)
end
end Go.Ab
end
section
namespace Go.Ab
variable [b3]
theorem aI.protect{G:Gh}{w:World}{mem:aK}(hM:aI G w mem)(S:Nat->Nat->Prop)(hS: ∀B o,S B o->B<w.heap.size/\G.mine B/\(∀(b:Nat) (x:bG) (e n a:Nat),mem[b]?=some (some x)->x.frz=false->G.loc b x.gen≠some ⟨some B,e,n,a⟩)/\
   ∀(b:Nat) (x:bG) (C i c:Nat),mem[b]?=some (some x)->d5 G b x C->¬cA w C x.row i c B):
  aI (G.frz S) w mem:=by
 refine⟨λb x h=>?_,hM.unset,hM.gens,hM.apart,hM.inA,hM.inB,hM.own,λB o h=>h.imp (hM.lab B o) id,fun β B o h=>h.elim (hM.away β B o) (λh=>(hS B o h).1),hM.glob.mono (λ_ _ h=> .inl h) λ_ _ _=>rfl⟩;have M:=hM.box b x h;obtain⟨o,Z,J,I,hm⟩:=M.loc;refine⟨M.e,o,Z,J,I,?_⟩;cases o with
 |none=>exact hm
 |some B=>
  obtain⟨O,W,V,U,Y⟩:=hm;have hB:d5 G b x B:=⟨_,J,rfl⟩
  refine⟨O,W,V,U.mono (cJ.frz G S λB o h=>(hS B o h).2.1) (Ev.refl G w) (λ_ _=>rfl) (λi c B' K=>⟨.of rfl,fun β o H=>?_⟩),λN β o H=>?_⟩
  ·rcases H with H|H
   ·exact(hM.inn h hB K).2.2.2 β o H
   ·exact(hS B' o H).2.2.2 b x B i c h hB K
  ·rcases H with H|H
   ·exact Y N β o H
   ·exact(hS B o H).2.2.1 b x _ _ _ h N J
theorem aI.new_tree{G:Gh}{w K:World}{mem:aK}(hM:aI G w mem)(I:Ev G w K)(J: ∀B,B<w.heap.size->K.heap[B]?=w.heap[B]?)(U:K.heap.size=w.heap.size+1):
  aI (G.frz λB _=>B=w.heap.size) K mem:=by
 have N:=hM.ev I (.inr I.size) J;refine N.protect _ λB o h=>?_;subst h;refine⟨by omega,hM.own _ (ya1 _),λb x e n a M _ W=>?_,λb x C i c M hC V=>?_⟩
 ·obtain⟨o,a0,H,O,hm⟩:=(hM.box b x M).loc;rw[W]at H;have:=congrArg BI.blk (ya H);simp only at this;subst this;exact Nat.lt_irrefl _ hm.2.1
 ·have hs: ∀o,cl K C o=cl w C o:=λo=>cX (J C (hM.blkSz M hC)) o;exact Nat.lt_irrefl _ (hM.inn M hC (V.same hs)).2.1
theorem B1{G:Gh}{w:World}{v:aL}{a:AV}{vs:List Value}{B cap:Nat}(V:bH G w v vs)(O:v.imm?=some a)(W:1≤v.e)(M: ∀j u,vs[j]?=some u->cl w B j=some u)
  (U: ∀β o,G.prot β B o) (I:v.len≤cap):VR G w a (.slice (some ⟨B,0,none⟩) v.len cap):=by
 cases v with
 |ints k xs=>
  obtain rfl:=ya O;obtain⟨_,_,h⟩:=V;exact .imm _ _ _ (.ints k xs B 0 cap I λi x H=>by rw[yy];exact⟨M _ _ (h i x H),U _ _⟩) rfl
 |pvs β e xs=>
  obtain rfl:=ya O;obtain⟨_,Y,h2,h⟩:=V;have J: ∀(i:Nat) (x:PV) (c:Nat) (y:PV),xs[i]?=some x->x.cells[c]?=some y->vs[i*e+c]?=some (vs.getD (i*e+c) undef)/\PR w (G.prot β) y (vs.getD (i*e+c) undef):=by
   intro i x c y H K;obtain⟨u,Z,N⟩:=h i x c y H K;rw[yi,Z];exact⟨rfl,N⟩
  exact .imm _ _ _ (.sl e xs B 0 cap (λi c=>vs.getD (i*e+c) undef) W I h2 (λi x c y H K=>by rw[yy];exact⟨M _ _ (J i x c y H K).1,U _ _⟩)
   (fun i x c y H K => Y _ (yt (J i x c y H K).1)) (fun i x c y H K => (J i x c y H K).2)) rfl
 |avs e cs=>simp[aL.imm?]at O
theorem IL{G:Gh}{w:World}{v:aL}{a:AV}(H:v.imm?=some a)(I:v.len=0):VR G w a (.slice none 0 0):=by
 cases v with
 |ints k xs=>
  obtain rfl:=ya H;obtain rfl:=yo I;exact .imm _ _ _ (.intsNil k _) rfl
 |pvs β e xs=>
  obtain rfl:=ya H;obtain rfl:=yo I;exact .imm _ _ _ (.slNil e _) rfl
 |avs e cs=>simp[aL.imm?]at H
section
variable {P:Program}
theorem Gf{t H:TypeId}{s bytes:Nat}{z:AV}(I:elemOf? P t=some H)(N:gW P H=some s)(M:iQ P H=some bytes)(Z:zero? P H=some z)(h5:bytes≤4096)(V:1≤s)(W:z.cells.length=s):
  ∃i J,As P t H s i J:=by
 obtain⟨i,J,K,hz,O⟩:=jE Z;have Y:P.underlying t=some (.slice H):=by
  unfold elemOf? at I;split at I
  ·obtain rfl:=ya I;assumption
  ·simp at I
 have U:=(kD (G:=⟨λ_ _=>none,λ_ _ _=>False,λ_=>False⟩) (w:=default) O).cells;refine⟨i,J,Y,K,?_,hz,?_,?_,V⟩
 ·unfold gW at N;rw[K]at N;simpa using N
 ·rw[<-W,U.1];simp
 ·unfold iQ at M;rw[K]at M;simp at M;omega
theorem FB{G:Gh}{w:World}{vars:Bool}{U:TypeId}{v:aL}{row:aX}{vs:List Value}(h:kE P vars U v=some row)(I:bH G w v vs)(K:1≤v.e):
  row.e=v.e/\row.len=v.len/\bH G w row.all vs/\(v.len=0->row.isCells=false):=by
 unfold kE at h;cases vars with
 |true=>
  simp only[yl]at h;rw[aA]at h;obtain⟨M,h⟩:=h;have M:=cE.1 M;rw[bind_some]at h;obtain⟨cs,H,h⟩:=h;rw[aA]at h;obtain⟨O,h⟩:=h;obtain rfl:=ya h;have hL:=BC H I;have N:cs.length=v.len*v.e:=by rw[hL.1,I.1]
  refine⟨rfl,?_,bH.ofLRs hL O ?_,λh0=>by omega⟩
  ·show aP v.e cs.length=v.len;rw[N,fW (n:=0) K]
  ·rw[N,fW (n:=0) K]
 |false=>
  simp only[yj]at h;split at h
  ·simp at h
  ·rename_i J;obtain rfl:=ya h;refine⟨jP _,e4 _,by rw[iT];exact I,λ_=>?_⟩;cases v with
   |avs e cs=>exact absurd rfl (J e cs)
   |ints k xs=>rfl
   |pvs β e xs=>rfl
theorem Hl{vars:Bool}{H:TypeId}{v:aL}{row:aX}(h:kE P vars H v=some row):row.isOwn=false:=by
 unfold kE at h;cases vars with
 |true=>
  simp only[yl]at h;rw[aA]at h;obtain⟨hl,h⟩:=h;rw[bind_some]at h;obtain⟨cs,I,h⟩:=h;rw[aA]at h;obtain⟨h1,h⟩:=h;obtain rfl:=ya h;rfl
 |false=>
  simp only[yj]at h;split at h
  ·simp at h
  ·obtain rfl:=ya h;exact iM _
theorem Ju{H:TypeId}{x y z:aL}(h:x.app P H y=some z)(I:x.row.isCells=false):z.row.isCells=false:=by
 unfold aL.app at h;split at h
 ·rw[aA]at h;obtain⟨_,h⟩:=h;obtain rfl:=ya h;rfl
 ·rw[aA]at h;obtain⟨_,h⟩:=h;obtain rfl:=ya h;rfl
 ·simp[aL.row,aX.isCells]at I
 ·simp at h
theorem BJ{r:aX}{o n:Nat}{v:aL}(h:r.sub o n=some v)(hr:r.isCells=false):v.row.isCells=false:=by
 cases r with
 |ints k xs=>simp only[aX.sub]at h;rw[aA]at h;obtain⟨_,h⟩:=h;obtain rfl:=ya h;rfl
 |pvs β e xs=>simp only[aX.sub]at h;rw[aA]at h;obtain⟨_,h⟩:=h;obtain rfl:=ya h;rfl
 |cells e cs=>simp[aX.isCells]at hr
 |own e xs hs=>cases h
theorem Iu{r:aX}(hr:r.isCells=false):r.all.row.isCells=false:=by cases r<;>first|rfl|cases hr
theorem sN{G:Gh}{w:World}{mem:aK}{b:Nat}{x:bG}{xv N K:aL}{H:List Value}{t et ty tx:TypeId}{s:Nat}{i:TypeInfo}{z:Value}{y:Value}
  (hM:aI G w mem) (Y:mem[b]?=some (some x)) (hE:As P t et s i z) (W:xv.e=s) (hx0:xv.len=0) (V:xv.row.isCells=false) (hvx:bH G w xv [])
  (hs:Src P s tx y N.len H w) (J:bH G w N H) (I:xv.app P et N=some K) (O:K.len≤bF):
  ∃U M cv,(Builtin.append_ #[t,tx] ty #[.slice none 0 0,y]).run P w= .ok cv M/\VR U M (.msw b (x.gen+1)) cv/\cJ G U/\Ev G w M/\
   aI U M (mem.set b (some {gen:=x.gen+1,frz:=false,row:=K.row})):=by
 obtain⟨hz,Z,_,hzl⟩:=Az hM.lab I hvx J;exact kC hM (yd.1 Y).1 (λg hg=>hM.gens b x g Y hg) hE hs (by omega) (by rw[jP,Z,W]) (by rw[e4];omega) (.plain (hM.gens b x _ Y (yj2 _)) (iM K) (by rw[iT];simpa using hz)) (λ_=>Ju I V)
theorem bH.nilOf{G:Gh}{w:World}{v:aL}(H:v.len=0)(I:v.row.isCells=false):bH G w v []:=by
 cases v with
 |ints k xs=>
  obtain rfl:=yo H;exact⟨rfl,by simp,by simp⟩
 |pvs β e xs=>
  obtain rfl:=yo H;exact⟨by simp[aL.len],by simp,by simp⟩
 |avs e cs=>simp[aL.row,aX.isCells]at I
theorem Oa{r:aX}{o n:Nat}{v:aL}(I:1≤r.e)(h:r.sub o n=some v):v.len=n:=by
 cases r with
 |ints k xs=>
  simp only[aX.sub]at h;rw[aA]at h;obtain⟨H,h⟩:=h;obtain rfl:=ya h;have:=cE.1 H;simp[aL.len];omega
 |pvs β e xs=>
  simp only[aX.sub]at h;rw[aA]at h;obtain⟨H,h⟩:=h;obtain rfl:=ya h;have:=cE.1 H;simp[aL.len];omega
 |cells e cs=>
  simp only[aX.sub]at h;rw[aA]at h;obtain⟨H,h⟩:=h;obtain rfl:=ya h;have H:=cE.1 H;rw[yj1]at H;have:((cs.drop (o*e)).take (n*e)).length=n*e:=by simp;omega
  simp only[aL.len];rw[this];exact fW (n:=0) I n
 |own e xs hs=>cases h
theorem NR(r:aX):r.all.row.isInts=r.isInts:=by cases r<;>rfl
theorem M3{r:aX}{o n:Nat}{v:aL}(h:r.sub o n=some v):v.row.isInts=r.isInts:=by
 cases r<;>simp only[aX.sub]at h<;>first|(cases h;done)|skip<;>rw[aA]at h<;>obtain⟨_,h⟩:=h<;>obtain rfl:=ya h<;>rfl
theorem Ja{t:TypeId}{x y z:aL}(h:x.app P t y=some z):z.row.isInts=x.row.isInts:=by
 unfold aL.app at h;split at h
 ·rw[aA]at h;obtain⟨_,h⟩:=h;obtain rfl:=ya h;rfl
 ·rw[aA]at h;obtain⟨_,h⟩:=h;obtain rfl:=ya h;rfl
 ·rw[bind_some]at h;obtain⟨_,_,h⟩:=h;rw[aA]at h;obtain⟨_,h⟩:=h;obtain rfl:=ya h;rfl
 ·cases h
theorem FG{G:Gh}{w:World}{mem:aK}{boxed vars:Bool}{t tx ty:TypeId}{rs:Nat}{x y:AV}{out:cU}{cx cy:Value}(hM:aI G w mem)(hrs:mem[rs]?=some none)
  (h:f6 P boxed vars t tx mem rs x y=some out) (hx:VR G w x cx) (hy:VR G w y cy):
  ∃G' w1 cv,(Builtin.append_ #[t,tx] ty #[cx,cy]).run P w= .ok cv w1/\VR G' w1 out.v cv/\cJ G G'/\Ev G w w1/\aI G' w1 (out.apply mem):=by
 unfold f6 at h;rw[bind_some]at h;obtain⟨et,het,h⟩:=h;rw[bind_some]at h;obtain⟨s,hs,h⟩:=h;rw[bind_some]at h;obtain⟨bytes,hby,h⟩:=h;rw[bind_some]at h;obtain⟨z,hz,h⟩:=h;rw[bind_some]at h;obtain⟨yv,hyv,h⟩:=h;rw[aA]at h;obtain⟨hg,h⟩:=h;simp only[yb]at hg;obtain⟨⟨⟨⟨g1,g2⟩,g3⟩,g4⟩,g5⟩:=hg;have g1:=bI.1 g1;have g3:=cE.1 g3;have g4:=cE.1 g4;have g5:=bI.1 g5;obtain⟨i,zv0,hE⟩:=Gf het hs hby hz g3 g4 g5;obtain⟨V,H,I⟩:=yN hM hyv hy (by rw[<-g1];exact hs) g2;rw[<-g1]at H;split at h
 ·obtain rfl:=hx.lit_inv;rw[aA]at h;obtain⟨hml,h⟩:=h;have hml:=cE.1 hml;have hno: ∀g,0≤g->G.loc rs g=none:=λg _=>hM.unset rs g (λx hx=>by rw[hrs]at hx;cases hx);have hrl:=(yd.1 hrs).1;cases boxed with
  |true=>
   simp only[yl]at h;obtain⟨row,hrow,rfl⟩:=yc.1 h;obtain⟨r1,r2,r3,r4⟩:=FB hrow I (by omega);rw[cZ];exact kC hM hrl hno hE H hml (by rw[r1,g1]) r2 (.plain (hno 0 (ya1 _)) (Hl hrow) r3) r4
  |false=>
   simp only[yj]at h;obtain⟨v,hv,rfl⟩:=yc.1 h;rw[Ec];by_cases h0:yv.1.len=0
   ·rw[h0]at H;have hnn:V= []:=yo (by rw[H.newsLen];simp);subst hnn;exact⟨G,w,_,run_append_nothing (P:=P) w t tx ty et i hE.under hE.info none 0 0 (ya1 _) cy (by rw[hE.size];exact H),IL hv h0,cJ.refl G,Ev.refl G w,hM⟩
   ·have hrun:=run_append_grow_src (P:=P) w t tx ty et i zv0 hE.under hE.info hE.zero none 0 0 [] (run_firstCells_none w.drew i.size 0 0 0) cy yv.1.len V (by rw[hE.size];exact H) (by omega)
     (by unfold bF at hml;omega) (growslice_fits (bytes:=i.bytes) (by omega) (qY (by omega) hE.bytes))
    generalize hc:([]++V).toArray++Builtin.zeroCells zv0.cells (grownCap w (0+yv.1.len) 0 et-(0+yv.1.len))=c at hrun;obtain⟨f1,f2,f3,f4⟩:=n9 w c et;have hev:=Ev.drew_alloc G w (.cells c et) hM.away;have hM':=hM.new_tree hev f1 f2;have hg:=cJ.frz G (λB _=>B=w.heap.size) (λB _ h=>by subst h;exact hM.own _ (ya1 _));refine⟨_,_,_,hrun,?_,hg,hev,hM'⟩;have hcap:0+yv.1.len≤grownCap w (0+yv.1.len) 0 et:=grownCap_ge w _ _ _;generalize grownCap w (0+yv.1.len) 0 et=C at hc hcap⊢
    rw[yy]at hcap⊢
    refine B1 (vs:=V) (I.mono hg hev) hv (by omega) (λj u W=>?_) (fun β o=> .inr rfl) hcap;rw[f3,<-hc,yr2 (by simpa using(yd.1 W).1)];simpa using W
 ·rename_i b g;rw[bind_some]at h;obtain⟨O,hbx,h⟩:=h;rw[bind_some]at h;obtain⟨zv,M,h⟩:=h;rw[aA]at h;obtain⟨hc,h⟩:=h;simp only[yb,yq]at hc;obtain⟨⟨c1,Y⟩,c3⟩:=hc;have Y:=bI.1 Y;have c3:=cE.1 c3;obtain rfl:=ya h;rw[cZ];obtain⟨hm,rfl⟩:=box?_some hbx;have he:=(hM.box b O hm).e;cases hx with
  |msw _ _ cap L B hl hb hn hf=>
   obtain⟨o,a0,K,U,N⟩:=(hM.box b O hm).loc;have J:=hl;rw[K]at J;obtain rfl:=ya J;simp only at hb;subst hb;obtain⟨h1,h2,h3,h4,h5⟩:=N;obtain⟨vs,hvs,hcl'⟩:=h4.toList he (box?_own hbx) U;have hcl: ∀j u,vs[j]?=some u->cl w B (a0+j)=some u:=λj u W=>by rw[hcl' j (yd.1 W).1];exact W
   have:=Ei (P:=P) (ty:=ty) (xv:=O.row.all) (cap:=cap) (a1:=a0) hM hm K (λh=>U (by rw[<-NR,<-Ja M];exact h)) c1 hE Y (by rw[oH,Y]) hvs hcl (by rw[dC];exact hn) (by rw[Y];exact hf) H I M c3;rw[dC]at this;exact this
  |mswNil _ _ L hl hb hn=>
   obtain⟨o,a0,K,U,N⟩:=(hM.box b O hm).loc;have J:=hl;rw[K]at J;obtain rfl:=ya J;simp only at hb;subst hb;have hc0:=Iu N.2;have hl0:O.row.all.len=0:=by rw[dC];exact N.1
   exact sN hM hm hE (by rw[oH,Y]) hl0 hc0 (bH.nilOf hl0 hc0) H I M c3
 ·rename_i b g o' n;rw[bind_some]at h;obtain⟨O,hbx,h⟩:=h;rw[bind_some]at h;obtain⟨xv,Z,h⟩:=h;rw[bind_some]at h;obtain⟨zv,M,h⟩:=h;rw[aA]at h;obtain⟨hc,h⟩:=h;simp only[yb,yq]at hc;obtain⟨⟨⟨c1,Y⟩,c3⟩,c4⟩:=hc;have c4:o'=0\/(O.row.isInts=true/\1≤zv.len):=by
   rw[yu1,yb]at c4;exact c4.imp (λh=>bI.1 h) (λh=>⟨h.1,cE.1 h.2⟩)
  have Y:=bI.1 Y;have c3:=cE.1 c3;obtain rfl:=ya h;rw[cZ];obtain⟨hm,rfl⟩:=box?_some hbx;have he:=(hM.box b O hm).e;have hxl:=Oa he Z;have hxe:=NM Z;cases hx with
  |ms _ _ _ _ cap L B hl hb hn hon hf=>
   obtain⟨o,a0,K,U,N⟩:=(hM.box b O hm).loc;have J:=hl;rw[K]at J;obtain rfl:=ya J;simp only at hb;subst hb;obtain⟨h1,h2,h3,h4,h5⟩:=N;obtain⟨vs,hvs,hcl'⟩:=h4.toList he (box?_own hbx) U;have hcl: ∀j u,vs[j]?=some u->cl w B (a0+j)=some u:=λj u W=>by rw[hcl' j (yd.1 W).1];exact W
   have hsub:=t4 he Z hvs;have hw0:=hsub.1;have hia:zv.row.isInts=false->a0+o'*O.row.e=0:=λh=>by
    rw[Ja M,M3 Z]at h;rcases c4 with rfl|⟨c4,_⟩
    ·rw[U h,yx2]
    ·rw[h]at c4;cases c4
   have:=Ei (P:=P) (ty:=ty) (cap:=cap) (a1:=a0+o'*O.row.e) hM hm K hia c1 hE Y (by rw[hxe,Y]) hw0
    (fun j u W => by
     have hj:=(yd.1 W).1;rw[yw2]at hj;rw[yi1,if_pos (by omega),yz]at W;rw[ys1];exact hcl _ u W) (by rw[hxl];exact hn) (by rw[Y,ys1,<-yj1];exact hf) H I M c3
   rw[hxl]at this;exact this
  |msNil _ _ L hl hb=>
   obtain⟨o,a0,K,U,N⟩:=(hM.box b O hm).loc;have J:=hl;rw[K]at J;obtain rfl:=ya J;simp only at hb;subst hb;have hc0:=BJ Z N.2;exact sN hM hm hE (by rw[hxe,Y]) hxl hc0 (bH.nilOf hxl hc0) H I M c3
  |msZ _ _ _ B oo L hl hb ho hon=>
   have hB:d5 G b O B:=⟨L,hl,hb⟩
   obtain⟨hi,hz1⟩:=c4.resolve_left (by omega);have hvx:bH G w xv []:=bH.nilOf hxl (BJ Z (by revert hi;cases O.row<;>intro h<;>first|rfl|cases h));obtain⟨hz,hze,_,hzl⟩:=Az hM.lab M hvx I;refine CT (row':=zv.row) (olds:= []) (s:=s) (base:=some ⟨B,oo,none⟩) (len:=0) (cap:=0) hM (yd.1 hm).1 (λg hg=>hM.gens b O g hm hg) hE
    (run_firstCells_some w.drew i.size 0 ⟨B,oo,none⟩ 0 0 [] (by simp) (λj u W=>by simp at W)) (by simp) H (by omega) (by omega) (by rw[jP,hze,hxe,Y]) (by rw[e4];omega) (Bold:=none) (λ_ _ h=>by cases h) ?_
   exact .plain (hM.gens b O _ hm (yj2 _)) (iM zv) (by rw[iT];simpa using hz)
 ·simp at h
end
end Go.Ab
end
section
namespace Go.Ab
variable [b3]
def flat(us:List Value):List Value:=us.flatMap λu=>u.cells.toList
theorem gE(u:Value)(us:List Value):flat (u::us)=u.cells.toList++flat us:=by simp[flat]
theorem fP{e:Nat}: ∀{us:List Value},(∀u∈us,u.cells.size=e)->(flat us).length=us.length*e
 | [],_=>by simp[flat]
 |u::us,h=>by
  rw[gE,ym1,fP (λx H=>h x (yg _ H)),yx1,h u (ym ..),ym2,yj1];omega
theorem oC{e:Nat}: ∀{us:List Value} {i c:Nat} {u:Value},(∀u∈us,u.cells.size=e)->us[i]?=some u->c<e->(flat us)[i*e+c]?=u.cells.toList[c]?
 | [],i,c,u,h,H,I=>by simp at H
 |v::us,0,c,u,h,H,I=>by
  simp at H;subst H;rw[gE,yx2,yy,yn (by rw[yx1,h v (ym ..)];exact I)]
 |v::us,i+1,c,u,h,H,I=>by
  have J:=h v (ym ..);rw[gE,yu (by rw[yx1,J,yj1];omega),yx1,J,show(i+1)*e+c-e=i*e+c by rw[yj1];omega];exact oC (λx K=>h x (yg _ K)) (by simpa using H) I
theorem H8{us:List Value}{x:Value}(h:x∈flat us): ∃u∈us,x∈u.cells.toList:=List.mem_flatMap.1 h
theorem q4: ∀{xs a b:List Value} {k:Nat},bB (a++b) (a.length+k) xs=a++bB b k xs
 | [],a,b,k=>rfl
 |x::xs,a,b,k=>by
  simp only[bB];rw[List.set_append_right _ _ (by omega),yc3,ys1];exact q4
theorem rC: ∀{xs a b:List Value} {p:List Value},xs.length=a.length->bB (p++(a++b)) p.length xs=p++(xs++b)
 | [],a,b,p,h=>by
  have:=yo h.symm;subst this;simp[bB]
 |x::xs,[],b,p,h=>by simp at h
 |x::xs,y::a,b,p,h=>by
  simp only[bB];rw[List.set_append_right _ _ (by omega),Nat.sub_self];simp only[yt2,List.set_cons_zero];have:=rC (xs:=xs) (a:=a) (b:=b) (p:=p++ [x]) (by simpa using h);simpa using this
theorem Iw{e:Nat}: ∀{us:List Value} {i:Nat} {v:Value},(∀u∈us,u.cells.size=e)->v.cells.size=e->i<us.length->bB (flat us) (i*e) v.cells.toList=flat (us.set i v)
 | [],i,v,h,I,H=>by simp at H
 |u::us,0,v,h,I,H=>by
  have:=rC (xs:=v.cells.toList) (a:=u.cells.toList) (b:=flat us) (p:= []) (by simp[I,h u (ym ..)]);rw[List.set_cons_zero,gE,gE,yx2];exact this
 |u::us,i+1,v,h,I,H=>by
  have K:=h u (ym ..);rw[List.set_cons_succ,gE,gE,show(i+1)*e=u.cells.toList.length+i*e by rw[yx1,K,yj1];omega,q4,
   Iw (λx J=>h x (yg _ J)) I (by simpa using H)]
def eZ(us:List Value):List (Nat×Value)->List Value
 | []=>us
 |(i,v)::r=>eZ (us.set i v) r
theorem rB: ∀{qs:List (Nat×Value)} {us:List Value},(eZ us qs).length=us.length
 | [],us=>rfl
 |(i,v)::r,us=>by rw[eZ,rB];simp
theorem nI{e:Nat}: ∀{qs:List (Nat×Value)} {us:List Value},(∀u∈us,u.cells.size=e)->(∀q∈qs,q.2.cells.size=e)->∀u∈eZ us qs,u.cells.size=e
 | [],us,h,_=>h
 |(i,v)::r,us,h,J=>by
  refine nI (qs:=r) (us:=us.set i v) (λu K=>?_) (λq I=>J q (yg _ I));rcases yk2 K with H|H
  ·exact h u H
  ·rw[H];exact J (i,v) (ym ..)
theorem Ay{s:Nat}: ∀{qs:List (Nat×Value)} {us:List Value} {c:Array Value},c.toList=flat us->(∀u∈us,u.cells.size=s)->(∀q∈qs,q.2.cells.size=s/\q.1<us.length)->
  ∃V,Instr.fill (λi=>some (i*s,s)) c qs=some V/\V.toList=flat (eZ us qs)
 | [],us,c,J,_,_=>⟨c,rfl,J⟩
 |(i,v)::r,us,c,J,N,U=>by
  obtain⟨I,M⟩:=U (i,v) (ym ..);simp only at I M;have H:(v.cells.zipIdx.foldl (λcs (c,j)=>cs.setIfInBounds (i*s+j) c) c).toList=bB c.toList (i*s) v.cells.toList:=by
   have:=Bd v.cells.toList (i*s) 0 c;rw[yk1]at this;rw[<-this,<-Array.foldl_toList];simp
  have O:c.size=us.length*s:=by rw[<-fP N,<-J];simp
  have W:i*s+v.cells.size≤c.size:=by
   rw[O,I]
   calc i*s+s=(i+1)*s:=by rw[yj1];omega
    _≤us.length*s:=yz1 _ M
  simp only[Instr.fill];rw[if_neg (by simp only[yu1,decide_eq_true_eq];omega)];refine Ay (us:=us.set i v) (by rw[H,J,Iw N I M]) (λu h=>?_) (λq h=>⟨(U q (yg _ h)).1,by simpa using(U q (yg _ h)).2⟩);rcases yk2 h with K|K
  ·exact N u K
  ·rw[K];exact I
theorem iG(z:Array Value)(J:1≤z.size): ∀n,((Array.range (n*z.size)).map (z[· %z.size]!)).toList=(List.replicate n z.toList).flatten
 |0=>by simp
 |n+1=>by
  have I:=iG z J n;simp only[Array.toList_map,Array.toList_range]at I⊢
  rw[yj1,Nat.one_mul,List.range_add,yg3,I,List.replicate_succ',List.flatten_append];congr 1;simp only[List.flatten_cons,List.flatten_nil,yg1,List.map_map];apply List.ext_getElem
  ·simp
  ·intro j H h2;simp at H;have:(n*z.size+j)%z.size=j:=by
    rw[Nat.add_comm,Nat.add_mul_mod_self_right];exact Nat.mod_eq_of_lt H
   simp[this,H]
theorem eN(n:Nat)(z:Value):flat (List.replicate n z)=(List.replicate n z.cells.toList).flatten:=by
 induction n with
 |zero=>rfl
 |succ n H=>rw[List.replicate_succ,gE,H,List.replicate_succ,List.flatten_cons]
theorem O3{G:Gh}(H: ∀B o,G.prot false B o->G.prot true B o){β β':Bool}(h:β'=false->β=false){w:World}{p:PV}{v:Value}(J:PR w (G.prot β) p v):PR w (G.prot β') p v:=by
 refine J.mono (λB o I=>?_) (λ_ _ _=>rfl);cases β' with
 |false=>rw[h rfl]at I;exact I
 |true=>cases β with
  |true=>exact I
  |false=>exact H _ _ I
section
variable {P:Program}
theorem Fk{G:Gh}{w:World}{mem:aK}{boxed:Bool}{rs:Nat}{v:aL}{vs:List Value}{out:cU}{t:TypeId}(hM:aI G w mem)(U:mem[rs]?=some none)(h:qC boxed rs v=some out)
  (V:bH G w v vs) (W:1≤v.e):
  ∃M,cJ G M/\Ev G w (w.alloc (.cells vs.toArray t))/\aI M (w.alloc (.cells vs.toArray t)) (aM mem out.wr)/\VR M (w.alloc (.cells vs.toArray t)) out.v (.slice (some ⟨w.heap.size,0,none⟩) v.len v.len)/\out.push= []:=by
 have J: ∀j u,vs[j]?=some u->cl (w.alloc (.cells vs.toArray t)) w.heap.size j=some u:=λj u Z=>by
  rw[iN];simpa using Z
 unfold qC at h;cases boxed with
 |true=>
  simp only[yl]at h;obtain rfl:=ya h;obtain⟨M,rfl,hg,H,I,hl⟩:=Dy (row:=v.row) (vs:=vs) (rest:= #[]) (t:=t) hM U (by rw[jP];exact W) (iM v) (by rw[iT];exact V);rw[Array.append_empty]at H I;refine⟨_,hg,H,I,?_,rfl⟩;have Y:VR (G.put rs 0 ⟨some w.heap.size,v.row.e,v.row.len,0⟩) (w.alloc (.cells vs.toArray t)) (.msw rs 0) (.slice (some ⟨w.heap.size,0,none⟩) v.row.len v.len):=by
   refine .msw rs 0 v.len _ w.heap.size hl rfl (by simp only[e4];exact ya1 _) (λj O=>?_);simp only[jP]at O;have N:j<vs.length:=by rw[V.1];exact(by rw[yy]at O;exact O)
   rw[J j _ (yf N)];rfl
  rw[e4]at Y⊢;exact Y
 |false=>
  simp only[yj]at h;obtain⟨a,ha,rfl⟩:=yc.1 h;have H:=Ev.alloc G w (.cells vs.toArray t) hM.away;have I:=hM.new_tree H (λB hB=>eH hB) (by simp);have K:=cJ.frz G (λB _=>B=w.heap.size) (λB _ h=>by subst h;exact hM.own _ (ya1 _));refine⟨_,K,H,I,?_,rfl⟩;exact B1 (vs:=vs) (V.mono K H) ha W J (fun β o=> .inr rfl) (ya1 _)
theorem p0{G:Gh}{w:World}: ∀{vs:List AV} {us:List Value},gH G w vs us->gH G w (fU vs) (flat us)
 | [],us,h=>by
  have:=yo h.1.symm;subst this;exact⟨rfl,λj y H=>by simp[fU]at H⟩
 |v::vs,[],h=>by simp[gH]at h
 |v::vs,u::us,h=>by
  rw[fU,gE];refine gH.append (h.2 0 v rfl).cells (p0 ⟨by simpa using h.1,λj y H=>by simpa using h.2 (j+1) y (by simpa using H)⟩)
theorem gH.get{G:Gh}{w:World}{as:List AV}{vs:List Value}(h:gH G w as vs){j:Nat}{a:AV}(H:as[j]?=some a): ∃u,vs[j]?=some u/\VR G w a u:=by
 have I:j<vs.length:=by rw[<-h.1];exact(yd.1 H).1
 have:=h.2 j a H;rw[yi,yf I]at this;exact⟨_,yf I,this⟩
theorem wV{k:IntKind}: ∀{vs:List AV} {xs:List Int},eM k vs=some xs->xs.length=vs.length/\∀(j:Nat) (x:Int),xs[j]?=some x->vs[j]?=some (.lit (.int k x))
 | [],xs,h=>by simp[eM]at h;subst h;exact⟨rfl,λj x H=>by simp at H⟩
 |v::vs,xs,h=>by
  unfold eM at h;split at h
  ·simp_all
  ·rename_i N x r J;obtain⟨rfl,rfl⟩:=yx J;cases I:fY k N with
   |false=>rw[I]at h;simp at h
   |true=>
    rw[I]at h;simp only[yl]at h;obtain⟨ys,K,rfl⟩:=yc.1 h;rw[iV]at I;subst I;obtain⟨M,O⟩:=wV K;refine⟨by simp[M],λj x H=>?_⟩;cases j with
    |zero=>simp at H;subst H;rfl
    |succ j=>simpa using O j x (by simpa using H)
  ·simp at h
theorem GY{G:Gh}{w:World}{mem:aK}{vars:Bool}{t:TypeId}{vs:List AV}{us:List Value}{r:aL×List Nat}{s:Nat}(hM:aI G w mem)(h:mE P vars mem t vs=some r)(hL:gH G w vs us)
  (V: ∀u∈us,u.cells.size=s) (hs:1≤s) (K:r.1.e=s):bH (G.frz (aW G w mem r.2)) w r.1 (flat us)/\r.1.len=vs.length:=by
 have W:=fP V;unfold mE at h;split at h
 ·rename_i k hk;obtain⟨xs,hxs,rfl⟩:=yc.1 h;obtain⟨O,hh⟩:=wV hxs;simp only[aL.e]at K;subst K;have N: ∀(i:Nat) (x:Int),xs[i]?=some x->(flat us)[i]?=some (.int k x):=by
   intro i x I;obtain⟨u,J,H⟩:=hL.get (hh i x I);obtain rfl:=H.lit_inv;have:=oC V J (c:=0) (by omega);rw[yy2,yk1]at this;exact this
  refine⟨⟨by simp only[aL.len,aL.e];rw[W,O,hL.1],λu J=>?_,N⟩,by simpa[aL.len]using O⟩;obtain⟨j,hj,rfl⟩:=yw1 J;have hj2:j<xs.length:=by rw[O,hL.1];omega
  have:=N j _ (yf hj2);rw[yf hj]at this;rw[ya this];rfl
 ·rw[bind_some]at h;obtain⟨e,he,h⟩:=h;cases vars with
  |true=>
   simp only[yl]at h;rw[aA]at h;obtain⟨hg,h⟩:=h;simp only[yb]at hg;obtain rfl:=ya h;simp only[aL.e]at K;subst K;have hcs:=p0 hL;have O:(fU vs).length=vs.length*e:=by rw[hcs.1,W,hL.1]
   have hcb:aP e (fU vs).length=vs.length:=by rw[O,fW (n:=0) hs]
   exact⟨(bH.ofLRs hcs hg.2 (by rw[hcb];exact O)).mono (cJ.frz G _ hM.inBoxes) (Ev.refl G w),hcb⟩
  |false=>
   simp only[yj]at h;obtain⟨q,hq,rfl⟩:=yc.1 h;simp only[aL.e]at K;subst K;obtain⟨O,hh⟩:=pS hq;have hlab: ∀B o,(G.frz (aW G w mem q.2.2)).prot false B o->(G.frz (aW G w mem q.2.2)).prot true B o:=λB o h=>h.imp (hM.lab B o) id;have N: ∀(i:Nat) (x:PV),q.2.1[i]?=some x->∃v u Z,vs[i]?=some v/\us[i]?=some u/\VR G w v u/\qH P mem t v=some Z/\Z.2.1=x/\(∀b∈Z.2.2,b∈q.2.2)/\(q.1=false->Z.1=false):=by
    intro i x I;have hi:i<vs.length:=by rw[<-O];exact(yd.1 I).1
    obtain⟨Z,h1,h2,h3,h4⟩:=hh i _ (yf hi);obtain⟨u,J,H⟩:=hL.get (yf hi);rw[I]at h2;exact⟨_,u,Z,yf hi,J,H,h1,(ya h2).symm,h3,h4⟩
   have hsz: ∀(i:Nat) (x:PV),q.2.1[i]?=some x->x.cells.length=e:=by
    intro i x I;obtain⟨v,u,Z,hv,J,H,h1,rfl,h3,h4⟩:=N i x I;obtain⟨ql,_⟩:=pL hM h1 H;rw[ql,H.cells.1,yx1];exact V u (yt J)
   have U: ∀(i:Nat) (x:PV) (c:Nat) (y:PV),q.2.1[i]?=some x->x.cells[c]?=some y->∃u,(flat us)[i*e+c]?=some u/\PR w ((G.frz (aW G w mem q.2.2)).prot q.1) y u/\u.oneCell'=true:=by
    intro i x c y I hy;have hce:c<e:=by rw[<-hsz i x I];exact(yd.1 hy).1
    obtain⟨v,u,Z,hv,J,H,h1,rfl,h3,h4⟩:=N i x I;obtain⟨ql,qq⟩:=pL hM h1 H;obtain⟨u',Y,hpr,M⟩:=qq c y hy;refine⟨u',by rw[oC V J hce];exact Y,O3 hlab h4 (hpr.mono (λB o hb=>hb.imp id (λhi=>hi.mono h3)) (λ_ _ _=>rfl)),M⟩
   refine⟨⟨by simp only[aL.len,aL.e];rw[W,O,hL.1],λu J=>?_,λx I=>?_,λi x c y I hy=>?_⟩,by simpa[aL.len]using O⟩
   ·obtain⟨j,hj,rfl⟩:=yw1 J;have hj':=hj;rw[W]at hj';have hi:j/e<us.length:=Nat.div_lt_of_lt_mul (by rw[yh2];exact hj');have hc:j%e<e:=Nat.mod_lt _ hs;have hi2:j/e<q.2.1.length:=by rw[O,hL.1];exact hi
    have I:=yf hi2;have hy:j%e<(q.2.1[j/e]).cells.length:=by rw[hsz _ _ I];exact hc
    obtain⟨u',Y,_,M⟩:=U _ _ _ _ I (yf hy);have hjj:j/e*e+j%e=j:=by rw[yh2];exact Nat.div_add_mod j e
    rw[hjj,yf hj]at Y;rw[ya Y];exact M
   ·obtain⟨j,hj,rfl⟩:=yw1 I;exact hsz j _ (yf hj)
   ·obtain⟨u,J,hpr,_⟩:=U i x c y I hy;exact⟨u,J,hpr⟩
theorem x7{G:Gh}{w:World}: ∀{ps:List (Nat×AV)} {qs:List (Nat×Value)} {vs:List AV} {us:List Value},gH G w vs us->OT G w ps qs->gH G w (lQ vs ps) (eZ us qs)
 | [],qs,vs,us,h,H=>by
  have:=yo H.1.symm;subst this;exact h
 |(i,v)::r,[],vs,us,h,H=>by simp[OT]at H
 |(i,v)::r,(i',u)::qs,vs,us,h,H=>by
  obtain⟨u',J,K⟩:=H.2 0 (i,v) rfl;simp only[yo2,Option.some.injEq,Prod.mk.injEq]at J;obtain⟨rfl,rfl⟩:=J;exact x7 (ps:=r) (qs:=qs) (h.set K) ⟨by simpa using H.1,λj p I=>by simpa using H.2 (j+1) p (by simpa using I)⟩
theorem nQ: ∀{ps:List (Nat×AV)} {vs:List AV},(lQ vs ps).length=vs.length
 | [],vs=>rfl
 |(i,v)::r,vs=>by rw[lQ,nQ];simp
theorem rT{e:Nat}: ∀{vs:List AV},lF e vs=true->∀v∈vs,v.cells.length=e
 | [],_=>by simp
 |v::vs,h=>by
  simp only[lF,yb]at h;intro x H;rcases yl1.1 H with rfl|H
  ·exact bI.1 h.1
  ·exact rT h.2 x H
theorem rE{n:Nat}: ∀{ps:List (Nat×AV)},mK n ps=true->∀p∈ps,p.1<n
 | [],_=>by simp
 |(i,v)::r,h=>by
  simp only[mK,yb]at h;intro x H;rcases yl1.1 H with rfl|H
  ·exact cE.1 h.1
  ·exact rE h.2 x H
end
end Go.Ab
end
section
namespace Go.Ab
variable [b3]
theorem qB: ∀(l:List Int) (r:ByteArray),l.foldl (λr n=>r.push (UInt8.ofNat n.toNat)) r=⟨r.data++(l.map λn=>UInt8.ofNat n.toNat).toArray⟩
 | [],r=>by simp
 |b::l,r=>by
  simp only[List.foldl_cons];rw[qB l];simp[ByteArray.push]
theorem Hh(xs:List Int):xs.foldl (λr n=>r.push (UInt8.ofNat n.toNat)) ByteArray.empty=oJ xs:=by
 rw[qB];have H:ByteArray.empty.data= #[]:=rfl;simp[oJ,H]
section
variable {P:Program}
theorem Ch{G:Gh}{w:World}{mem:aK}{boxed vars:Bool}{t O:TypeId}{rs len s:Nat}{z:AV}{ps:List (Nat×AV)}{qs:Array (Nat×Value)}{wv:aL×List Nat}{o:cU}(hM:aI G w mem)(hrs:mem[rs]?=some none)
  (J:elemOf? P t=some O) (hz:zero? P O=some z) (hs:gW P O=some s) (hg:(mK len ps&&Nat.ble len 4096&&Nat.ble 1 s&&Nat.ble s 4096&&lF s (z::ps.map (·.2)))=true)
  (hv:mE P vars mem O (lQ (List.replicate len z) ps)=some wv) (N:Nat.beq wv.1.e s=true) (ho:qC (boxed||Nat.beq len 0) rs wv.1=some o) (hp:OT G w ps qs.toList):
  ∃G' w' cv,(Instr.buildSlice t len qs).run P w= .ok cv w'/\VR G' w' o.v cv/\cJ G G'/\Ev G w w'/\aI G' w' (({v:=o.v,rd:=wv.2,wr:=bV mem wv.2++o.wr}:cU).apply mem):=by
 simp only[yb]at hg;obtain⟨⟨⟨⟨g1,g2⟩,g3⟩,g4⟩,g5⟩:=hg;have g2:=cE.1 g2;have g3:=cE.1 g3;have g4:=cE.1 g4;have N:=bI.1 N;have hu:P.underlying t=some (.slice O):=by
  unfold elemOf? at J;split at J
  ·obtain rfl:=ya J;assumption
  ·simp at J
 obtain⟨i,H,hi,hzv,hov⟩:=jE hz;have I:i.size=s:=by unfold gW at hs;rw[hi]at hs;simpa using hs
 have Z:VR G w z H:=kD hov;have hsz:=rT g5;have U:H.cells.size=s:=by rw[<-hsz z (ym ..)];simpa using Z.cells.1.symm
 have hL0:gH G w (List.replicate len z) (List.replicate len H):=by
  refine⟨by simp,λj y hy=>?_⟩;obtain⟨hj,rfl⟩:j<len/\z=y:=by
   have V:=(yd.1 hy)
   obtain⟨V,h2⟩:=V;simp at V h2;exact⟨V,h2⟩
  rw[yi,ya2,if_pos hj];exact Z
 have hL:=x7 hL0 hp;have hq: ∀q∈qs.toList,q.2.cells.size=s/\q.1<(List.replicate len H).length:=by
  intro q hq;obtain⟨j,hj,rfl⟩:=yw1 hq;have K:j<ps.length:=by rw[hp.1];exact hj
  obtain⟨v,hv,hvr⟩:=hp.2 j _ (yf K);rw[yf hj]at hv;have hqe:=ya hv;rw[hqe];refine⟨?_,by simp only[List.length_replicate];exact rE g1 _ (yp2 K)⟩;rw[<-hsz (ps[j].2) (yg _ (yq2.2 ⟨_,yp2 K,rfl⟩))];simpa using hvr.cells.1.symm
 have hz1: ∀u∈List.replicate len H,u.cells.size=s:=λu hu=>by rw[(yg2.1 hu).2];exact U
 have hus:=nI hz1 (λq h=>(hq q h).1);obtain⟨M,hvl⟩:=GY hM hv hL hus g3 N;have hM1:=hM.freeze wv.2;have Y:=cJ.frz G (aW G w mem wv.2) hM.inBoxes;have hrs1:(aM mem (bV mem wv.2))[rs]?=some none:=by
  rw[(dH mem wv.2 mem rs rfl).2.1 (.inr (λy hy=>by rw[hrs]at hy;cases hy))];exact hrs
 obtain⟨G',V,h2,h3,h4,h5⟩:=Fk (t:=O) hM1 hrs1 ho M (by omega);have W:wv.1.len=len:=by rw[hvl,nQ];simp
 rw[W]at h4;refine⟨G',_,_,?_,h4,Y.trans V,?_,?_⟩
 ·by_cases h0:len=0
  ·subst h0;have hq0:qs.toList= []:=by
    cases hh:qs.toList with
    |nil=>rfl
    |cons q r=>have:=(hq q (by rw[hh];exact ym ..)).2;simp at this
   rw[hq0];simp[Instr.buildSlice,run_underlying hu,sizeOf,typeInfo,hi,hq0,Instr.fill,newRow,eZ,flat,Array.range_zero']
  ·have hlt:len*s≤16777216:=yc2 (Nat.mul_le_mul g2 g4) (by decide);have hpos:0<len*s:=Nat.mul_pos (by omega) (by omega);have hc0:((Array.range (len*i.size)).map (H.cells[· %H.cells.size]!)).toList=flat (List.replicate len H):=by
    rw[I,eN];have:=iG H.cells (by omega) len;rw[U]at this;rw[U];exact this
   obtain⟨c',hf,hc'⟩:=Ay hc0 hz1 hq;have hcc:c'=(flat (eZ (List.replicate len H) qs.toList)).toArray:=by rw[<-hc']
   rw[<-hcc];exact run_buildSlice w t O len qs c' i H hu hi hzv (by rw[I];omega) (by rw[I];omega) (by rw[I]at hf⊢;exact hf)
 ·exact(Ev.refl G w).trans Y h2
 ·simp only[cU.apply,yg1];rw[nD];exact h3
theorem rO{G:Gh}{w:World}{mem:aK}{boxed:Bool}{t K:TypeId}{rs n s:Nat}{I:Value}{v:aL}{i:TypeInfo}{out:cU}{Z kc:IntKind}(hM:aI G w mem)(V:mem[rs]?=some none)
  (hu:P.underlying t=some (.slice K)) (hi:P.info? K=some i) (hz:i.zero=some I) (O:i.size=s) (hs1:1≤s) (U:i.bytes≤4096) (hn:n≤bF) (W:I.cells.size=s)
  (hv:bH G w v (flat (List.replicate n I))) (N:v.len=n) (hve:v.e=s) (ho:qC boxed rs v=some out):
  ∃J M cv,(Instr.makeSlice t (.int Z (n:Int)) (.int kc (n:Int))).run P w= .ok cv M/\VR J M out.v cv/\cJ G J/\Ev G w M/\aI J M (out.apply mem):=by
 obtain⟨J,h1,h2,h3,Y,h5⟩:=Fk (t:=K) hM V ho hv (by omega);have hfit:=qY hn U;have H:=run_make (P:=P) w t K i I hu hi hz Z kc n n (by omega) (Int.le_refl _) (by
   have h:((n*i.bytes:Nat):Int)≤281474976710656:=by omega
   rw[Int.natCast_mul,Int.mul_comm]at h;exact h) (by unfold bF at hn;omega)
 simp only[yj3]at H;have hc:madeCells I.cells (n*i.size)=(flat (List.replicate n I)).toArray:=by
  have:=iG I.cells (by omega) n;rw[<-yf2 (xs:=madeCells I.cells (n*i.size)),eN,<-this,O];simp only[madeCells,W]
 rw[hc]at H;rw[N]at Y;refine⟨J,_,_,H,Y,h1,h2,?_⟩;simp only[cU.apply,h5,yg1];exact h3
theorem G7{G:Gh}{w:World}{mem:aK}{e M dst:TypeId}{x:AV}{xs:List Int}{rd:List Nat}{cv:Value}(hM:aI G w mem)(N:P.underlying M=some (.slice e))(he:P.underlying e=some (.int .u8))(hd:P.underlying dst=some .string)
  (Z:view P e mem x=some (.ints .u8 xs,rd)) (ht:gW P e=some 1) (K:vO P M x=true) (Y:VR G w x cv):(convert M dst cv).run P w= .ok (.string (oJ xs)) w:=by
 obtain⟨J,hS,hV⟩:=yN hM Z Y ht K;have I:J=xs.map (Value.int .u8):=by
  obtain⟨U,h2,h3⟩:=hV;simp only[aL.len,aL.e,yy2]at U;refine List.ext_getElem (by simp[U]) (λj W hj2=>?_);have hj:j<xs.length:=by omega
  have:=h3 j _ (yf hj);rw[yf W]at this;rw[ya this];simp
 have O:=hS.len w;have H:=hS.cells;have hnl:=hS.newsLen;have V: ∃a c,cv= .slice a xs.length c:=by
  cases cv<;>simp[Builtin.lenOf]at O
  ·cases Y with
   |lit v h=>
    unfold vO at K;rw[N]at K;simp at K
   |imm β p v h hs=>cases h;simp[PV.isSl]at hs
   |dead v U h2=>simp[view]at Z
  ·exact⟨_,_,by rw[O];rfl⟩
 obtain⟨a,c,rfl⟩:=V;rw[run_convert_bytes_string w M dst e a xs.length c N he hd];cases a with
 |none=>
  simp[Builtin.firstCells]at H;have:J= []:=by
   cases J with
   |nil=>rfl
   |cons=>simp at H
  rw[this]at I;have:xs= []:=List.map_eq_nil_iff.1 I.symm;subst this;rfl
 |some a=>
  simp only[Builtin.firstCells,aL.e,aL.len,yy2]at H;rw[run_bytesToString w a _ c xs (by rw[<-I];exact H),Hh]
end
end Go.Ab
end
section
namespace Go.Ab
variable [b3]
theorem OZ{vs:Array Value}(h:vs.size=1): ∃x,vs= #[x]:=by
 obtain⟨l⟩:=vs
 match l,h with
 | [x],_=>exact⟨x,rfl⟩
theorem O9{vs:Array Value}(h:vs.size=2): ∃x y,vs= #[x,y]:=by
 obtain⟨l⟩:=vs
 match l,h with
 | [x,y],_=>exact⟨x,y,rfl⟩
section
variable {P:Program}
def nO(P:Program)(G:Gh)(w:World)(mem:aK)(o:Oper)(a:Act)(out:cU):Prop:=
 ∀(K:Act->World->Prop) (Q:Exit->Act->World->Prop),(∀G' w' cv,VR G' w' out.v cv->cJ G G'->Ev G w w'->aI G' w' (out.apply mem)->K (a.put o.dst cv) w')->o.wp P a w K Q
def Kg(P:Program)(G:Gh)(w:World)(mem:aK)(g:FuncId)(args:Array Value)(out:cU):Prop:=
 (callFunc g args).run P w= .ok (.enter g args) w/\
 Calls P g args w λe w'=> ∃G' cv,e= .returned cv/\VR G' w' out.v cv/\cJ G G'/\Ev G w w'/\aI G' w' (out.apply mem)
variable {G:Gh} {w:World} {mem:aK} {o:Oper} {a:Act} {out:cU}
theorem jK.opW(h:jK P G w mem o a out):nO P G w mem o a out:=by
 intro K Q hK;obtain⟨M,U,nx,cv,I,J,N,O,H,hM⟩:=h;unfold Oper.wp;rw[I];rcases J with rfl|⟨rfl,rfl⟩
 ·exact hK M U cv N O H hM
 ·exact hK M U undef N O H hM
theorem nO.value{s:Sem Value}(M:execOp a.eval o=(do pure (Next.value (<-s))))
  (h: ∃I H cv,s.run P w= .ok cv H/\VR I H out.v cv/\cJ G I/\Ev G w H/\aI I H (out.apply mem)):nO P G w mem o a out:=by
 obtain⟨I,H,cv,J,N,O,K,hM⟩:=h;refine jK.opW ⟨I,H,.value cv,cv,?_,.inl rfl,N,O,K,hM⟩;rw[M];simp only[Sem.run_bind,J,Result.andThen_ok,Sem.run_pure]
theorem nO.still{s:Sem Value}(hM:aI G w mem)(I:execOp a.eval o=(do pure (Next.value (<-s)))){cv:Value}(K:out.wr= [])(J:out.push= [])
  (H:s.run P w= .ok cv w) (M:VR G w out.v cv):nO P G w mem o a out:=
 nO.value I ⟨G,w,cv,H,M,cJ.refl G,Ev.refl G w,by simp only[cU.apply,K,J,aM,yg1];exact hM⟩
theorem nO.plain(hM:aI G w mem){cv:Value}(H:execOp a.eval o=pure (Next.value cv))(J:out.wr= [])(I:out.push= [])(K:VR G w out.v cv):nO P G w mem o a out:=
 jK.opW ⟨G,w,.value cv,cv,by rw[H];simp,.inl rfl,K,cJ.refl G,Ev.refl G w,by simp only[cU.apply,J,I,aM,yg1];exact hM⟩
theorem lK{ρ:Operand->Option AV}(I:MW G w ρ a){x:Option Operand}{r:Option Int}(h:z9 ρ x=some r):mF r (x.map a.eval):=by
 cases x with
 |none=>simp[z9]at h;subst h;exact trivial
 |some x=>
  simp only[z9]at h;rw[bind_some]at h;obtain⟨v,J,h⟩:=h;unfold JM at h;split at h
  ·simp at*
  ·rename_i k n H;obtain rfl:=ya H;obtain rfl:=ya h;have:=(I x _ J).lit_inv;exact⟨k,by simp[this]⟩
  ·simp at h
theorem lZ{t H:TypeId}(h:elemOf? P t=some H):P.underlying t=some (.slice H):=by
 unfold elemOf? at h;split at h
 ·obtain rfl:=ya h;assumption
 ·simp at h
theorem mA{l:List Nat}(h:eX l=true):l= []:=by cases l<;>simp_all[eX]
theorem Km{k:IntKind}{z:AV}{J:Value}{I:List Int}{n:Nat}(h:eM k [z]=some I)(N:VR G w z J):bH G w (.ints k (List.replicate n (I.headD 0))) (flat (List.replicate n J))/\J.cells.size=1:=by
 obtain⟨O,U⟩:=wV h;obtain⟨x,rfl⟩: ∃x,I= [x]:=by
  match I,O with
  | [x],_=>exact⟨x,rfl⟩
 have:=U 0 x rfl;simp at this;subst this;obtain rfl:=N.lit_inv;have V:flat (List.replicate n (Value.int k x))=List.replicate n (.int k x):=by
  rw[eN];have W:(Value.int k x).cells.toList= [.int k x]:=rfl;rw[W]
  induction n with
  |zero=>rfl
  |succ n K=>rw[List.replicate_succ,List.flatten_cons,K,List.replicate_succ];rfl
 rw[V];refine⟨⟨by simp[aL.len,aL.e],λu M=>by rw[(yg2.1 M).2];rfl,λi y H=>?_⟩,rfl⟩;simp only[List.headD_cons]at H;rw[ya2]at H⊢
 split at H
 ·rw[if_pos (by assumption)];rw[<-ya H]
 ·simp at H
theorem Gg{t:TypeId}{z:AV}{M:Value}{q:Bool×PV×List Nat}{n e:Nat}(hM:aI G w mem)(h:qH P mem t z=some q)(hz:VR G w z M)(W:z.cells.length=e)(h1:1≤e)(hq:q.2.2= []):
  bH G w (.pvs q.1 e (List.replicate n q.2.1)) (flat (List.replicate n M))/\M.cells.size=e:=by
 obtain⟨ql,qq⟩:=pL hM h hz;have N:M.cells.size=e:=by rw[<-W];simpa using hz.cells.1.symm
 have J: ∀u∈List.replicate n M,u.cells.size=e:=λu H=>by rw[(yg2.1 H).2];exact N
 have hfl:=fP J;have U: ∀(i:Nat) (x:PV) (c:Nat) (y:PV),(List.replicate n q.2.1)[i]?=some x->x.cells[c]?=some y->∃u,(flat (List.replicate n M))[i*e+c]?=some u/\PR w (G.prot q.1) y u/\u.oneCell'=true:=by
  intro i x c y K Y;rw[ya2]at K;split at K
  ·rename_i hi;obtain rfl:=ya K;have hce:c<e:=by rw[<-W,<-ql];exact(yd.1 Y).1
   obtain⟨u,H,O,I⟩:=qq c y Y;refine⟨u,by rw[oC J (u:=M) (by rw[ya2,if_pos hi]) hce];exact H,O.mono (λB o V=>?_) (λ_ _ _=>rfl),I⟩;rcases V with V|⟨b,V,_⟩
   ·exact V
   ·rw[hq]at V;simp at V
  ·simp at K
 refine⟨⟨by simp only[aL.len,aL.e];rw[hfl];simp,λu H=>?_,λx K=>by rw[(yg2.1 K).2,ql,W],λi x c y K Y=>?_⟩,N⟩
 ·obtain⟨v,hv,H⟩:=H8 H;rw[(yg2.1 hv).2]at H;obtain⟨j,hj,rfl⟩:=yw1 H;have Z:j<q.2.1.cells.length:=by rw[ql,W,<-N];simpa using hj
  obtain⟨u,H,_,I⟩:=qq j _ (yf Z);rw[yf hj]at H;rw[ya H];exact I
 ·obtain⟨u,H,O,_⟩:=U i x c y K Y;exact⟨u,H,O⟩
theorem J6{t tx ty:TypeId}{rs:Nat}{n:Int}{kn:IntKind}(hM:aI G w mem)(hrs:mem[rs]?=some none)(h:BP P t tx mem rs n=some out):
  ∃V W cv,(Builtin.append_ #[t,tx] ty #[.slice none 0 0,.int kn n]).run P w= .ok cv W/\VR V W out.v cv/\cJ G V/\Ev G w W/\aI V W (out.apply mem):=by
 unfold BP at h;split at h
 ·rename_i kx hkx;rw[bind_some]at h;obtain⟨M,het,h⟩:=h;rw[bind_some]at h;obtain⟨z,hz,h⟩:=h;split at h
  ·rw[bind_some]at h;obtain⟨q,hq,h⟩:=h;rw[bind_some]at h;obtain⟨e,Z,h⟩:=h;rw[bind_some]at h;obtain⟨bytes,K,h⟩:=h;rw[aA]at h;obtain⟨hg,h⟩:=h;simp only[yb,decide_eq_true_eq]at hg;obtain⟨⟨g0,O⟩,⟨⟨U,g2⟩,g3⟩,g4⟩:=hg;have O:=cE.1 O;have U:=cE.1 U;have g2:=cE.1 g2;have g3:=bI.1 g3;have g4:=mA g4;obtain rfl:=ya h;obtain⟨i,H,hi,hzv,hov⟩:=jE hz;have hzr:VR G w z H:=kD hov;obtain⟨m,rfl⟩: ∃m:Nat,n=(m:Int):=⟨n.toNat,by omega⟩
   rw[yj3]at O⊢
   obtain⟨hv,N⟩:=Gg (n:=m) hM hq hzr g3 U g4;have his:i.size=e:=by unfold gW at Z;rw[hi]at Z;simpa using Z
   have hib:i.bytes≤4096:=by unfold iQ at K;rw[hi]at K;simp at K;omega
   have hfit:=qY O hib;have I:=Lib.run_append_nil_zeros (P:=P) w t tx ty M i H kn kx (lZ het) hkx hi hzv m (by omega) (by omega) (by unfold bF at O;omega) (by omega);have hrc:=iG H.cells (by omega) m;have hc:Builtin.zeroCells H.cells m=(flat (List.replicate m H)).toArray:=by
    rw[<-yf2 (xs:=Builtin.zeroCells H.cells m),eN,<-hrc];rfl
   have J:m≤grownCap w m 0 M:=grownCap_ge w _ _ _;rw[hc]at I;have Y:=hM.ev (Ev.drew G w) (.inl rfl) (λB _=>rfl);have hvd:bH G w.drew (aX.pvs q.1 e (List.replicate m q.2.1)).all (flat (List.replicate m H)):=hv.mono (cJ.refl G) (Ev.drew G w);obtain⟨V,rfl,hg',hev,hM',hl⟩:=Dy (row:= .pvs q.1 e (List.replicate m q.2.1)) (vs:=flat (List.replicate m H)) (rest:=Builtin.zeroCells H.cells (grownCap w m 0 M-m)) (t:=M) Y hrs U rfl hvd;have hfl:(flat (List.replicate m H)).length=m*e:=by
    rw[fP (e:=e) (us:=List.replicate m H) (λu hu=>by rw[(yg2.1 hu).2];exact N)];simp
   refine⟨_,_,_,I,?_,hg',(Ev.drew G w).trans (cJ.refl G) hev,by simpa[cU.apply,aM]using hM'⟩;generalize grownCap w m 0 M=C at J I⊢
   have hk:VR (G.put rs 0 ⟨some w.drew.heap.size,(aX.pvs q.1 e (List.replicate m q.2.1)).e,(aX.pvs q.1 e (List.replicate m q.2.1)).len,0⟩) (w.drew.alloc (.cells ((flat (List.replicate m H)).toArray++Builtin.zeroCells H.cells (C-m)) M)) (.msw rs 0) (.slice (some ⟨w.heap.size,0,none⟩) m C):=by
    have:=VR.msw (G:=G.put rs 0 ⟨some w.drew.heap.size,(aX.pvs q.1 e (List.replicate m q.2.1)).e,(aX.pvs q.1 e (List.replicate m q.2.1)).len,0⟩) (w:=w.drew.alloc (.cells ((flat (List.replicate m H)).toArray++Builtin.zeroCells H.cells (C-m)) M)) rs 0 C _ w.drew.heap.size (Gh.put_self ..) rfl (by simp[aX.len];exact J) (λj hj=>by
     rw[iN];simp only[aX.e,yy]at hj;have hjs:j<((flat (List.replicate m H)).toArray++Builtin.zeroCells H.cells (C-m)).size:=by
      simp only[Array.size_append,List.size_toArray,size_zeroCells,hfl,N];rw[<-yj1];exact yy1 hj (yz1 _ (by omega))
     rw[yo1 hjs];rfl)
    simpa[aX.len]using this
   exact hk
  ·cases h
 ·cases h
theorem E5{boxed vars:Bool}{b:Builtin}{ts:Array TypeId}{ty:TypeId}{consts:Array Bool}{rs:Nat}{args:List AV}{vs:Array Value}(hM:aI G w mem)(U:b= .append->mem[rs]?=some none)
  (h:dK P boxed vars b ts.toList mem rs args=some out) (I:nH G w args vs):
  ∃s:Sem Value,builtin b ts ty consts vs=(do pure (Next.value (<-s)))/\∃Y W cv,s.run P w= .ok cv W/\VR Y W out.v cv/\cJ G Y/\Ev G w W/\aI Y W (out.apply mem):=by
 have V: ∀j,vs.getD j undef=vs.toList.getD j undef:=λj=>(dR vs j).symm;unfold dK at h;split at h
 ·rename_i t x K;obtain⟨n,hn,rfl⟩:=yc.1 h;have H:ts= #[t]:=by rw[<-K,yf2]
  obtain⟨x',rfl⟩:=OZ I.1.symm;have J:=I.2 0 x rfl;simp at J;subst H;exact⟨_,rfl,G,w,_,I9 hM hn J,.lit _ rfl,cJ.refl G,Ev.refl G w,by simpa[cU.apply,aM]using hM⟩
 ·rename_i t Z kn n K;have H:ts= #[t,Z]:=by rw[<-K,yf2]
  obtain⟨x',y',rfl⟩:=O9 I.1.symm;have J:=I.2 0 _ rfl;have N:=I.2 1 _ rfl;simp at J N;obtain rfl:=J.lit_inv;obtain rfl:=N.lit_inv;subst H;exact⟨_,rfl,J6 hM (U rfl) h⟩
 ·rename_i t Z x y hno K;have H:ts= #[t,Z]:=by rw[<-K,yf2]
  obtain⟨x',y',rfl⟩:=O9 I.1.symm;have J:=I.2 0 x rfl;have N:=I.2 1 y rfl;simp at J N;subst H;exact⟨_,rfl,FG hM (U rfl) h J N⟩
 ·rename_i t K;have H:ts= #[t]:=by rw[<-K,yf2]
  obtain⟨x',rfl⟩:=OZ I.1.symm;have J:=I.2 0 _ rfl;simp at J;obtain rfl:=J.lit_inv;subst H;split at h
  ·rename_i et hu;obtain rfl:=ya h;exact⟨_,rfl,G,w,.int .i64 0,by simp[Builtin.cap_,run_underlying hu,goInt],.lit _ rfl,cJ.refl G,Ev.refl G w,by simpa[cU.apply,aM]using hM⟩
  ·cases h
 ·rename_i k a r;obtain⟨v,O,rfl⟩:=yc.1 h;have J:=I.2 0 _ rfl;obtain⟨x',M,hvs⟩: ∃x' M,vs.toList=x'::M:=by
   cases hh:vs.toList with
   |nil=>have:=I.1;rw[<-yx1,hh]at this;simp at this
   |cons x' M=>exact⟨x',M,rfl⟩
  rw[V,hvs]at J;obtain rfl:=J.lit_inv;have:=sJ (P:=P) (G:=G) (w:=w) (op:=Builtin.min2) (f:=Od k) (k:=k) (λa b=>by simp[Builtin.min2,Od,Bool.cond_decide]) O
   ⟨by have:=I.1;rw[<-yx1,hvs]at this;simpa using this,λj y N=>by have:=I.2 (j+1) y (by simpa using N);rw[V,hvs]at this;simpa using this⟩
  refine⟨_,rfl,G,w,.int k v,?_,.lit _ rfl,cJ.refl G,Ev.refl G w,by simpa[cU.apply,aM]using hM⟩;simp only[Builtin.min_,hvs];exact this
 ·rename_i k a r;obtain⟨v,O,rfl⟩:=yc.1 h;have J:=I.2 0 _ rfl;obtain⟨x',M,hvs⟩: ∃x' M,vs.toList=x'::M:=by
   cases hh:vs.toList with
   |nil=>have:=I.1;rw[<-yx1,hh]at this;simp at this
   |cons x' M=>exact⟨x',M,rfl⟩
  rw[V,hvs]at J;obtain rfl:=J.lit_inv;have:=sJ (P:=P) (G:=G) (w:=w) (op:=Builtin.max2) (f:=Oi k) (k:=k) (λa b=>by simp[Builtin.max2,Oi,Bool.cond_decide]) O
   ⟨by have:=I.1;rw[<-yx1,hvs]at this;simpa using this,λj y N=>by have:=I.2 (j+1) y (by simpa using N);rw[V,hvs]at this;simpa using this⟩
  refine⟨_,rfl,G,w,.int k v,?_,.lit _ rfl,cJ.refl G,Ev.refl G w,by simpa[cU.apply,aM]using hM⟩;simp only[Builtin.max_,hvs];exact this
 ·simp at h
theorem aI.sameCells{G:Gh}{w J:World}{mem:aK}(hM:aI G w mem)(I:Ev G w J)(K: ∀B o,cl J B o=cl w B o)(hs:J.heap.size=w.heap.size)(hf: ∀B,fL w B->fL J B):aI G J mem where
 box b x h:=by
  have Z:=hM.box b x h;obtain⟨o,a0,Y,M,hm⟩:=Z.loc;refine⟨Z.e,o,a0,Y,M,?_⟩;cases o with
  |none=>exact hm
  |some B=>
   obtain⟨O,N,U,W,V⟩:=hm;exact⟨O,by rw[hs];exact N,hf B U,W.mono (cJ.refl G) I (λo _=>K B o) (λi c B' H=>⟨⟨K B',hf B'⟩,(hM.inn h ⟨_,Y,rfl⟩ H).2.2.2⟩),V⟩
 unset:=hM.unset
 gens:=hM.gens
 apart:=hM.apart
 inA b b' x x' B i c B' h k H h':=hM.inA b b' x x' B i c B' h k (H.same (K B)) h'
 inB b b' x x' B C i c i' c' B' h k H h' k' hi':=hM.inB b b' x x' B C i c i' c' B' h k (H.same (K B)) h' k' (hi'.same (K C))
 own B h:=hM.own B (by rw[<-hs];exact h)
 lab:=hM.lab
 away β B o h:=by rw[hs];exact hM.away β B o h
 glob:=hM.glob.mono (λ_ _ h=>h) (I.prot true)
theorem N7{w:World}{B:Nat}(U:fL w B):
  ∃H,(∀k,(markStringish ⟨B,k,none⟩).run P w= .ok () H)/\(∀B' o,cl H B' o=cl w B' o)/\H.heap.size=w.heap.size/\H.output=w.output/\H.os=w.os/\H.tape=w.tape/\(∀B',B'≠B->H.heap[B']?=w.heap[B']?)/\
   (∀B',fL w B'->fL H B'):=by
 obtain⟨c,el,J,K,M,hr⟩:=U;refine⟨w.freeze ⟨B,c.size,none⟩ 1,λk=>?_,?_⟩
 ·simp[markStringish,World.shape?,M]
 have O:(w.freeze ⟨B,c.size,none⟩ 1).heap[B]?=some (.cells c el (if J==K then(c.size,c.size+1)else(min J c.size,max K (c.size+1)))):=by
  unfold World.freeze;rw[if_neg (by decide)];simp only[Array.getElem?_modify,if_true,M,yh]
 have I: ∀B',B'≠B->(w.freeze ⟨B,c.size,none⟩ 1).heap[B']?=w.heap[B']?:=λB' e=>by
  unfold World.freeze;rw[if_neg (by decide)];simp only[Array.getElem?_modify];rw[if_neg (λh=>e h.symm)]
 have N:(w.freeze ⟨B,c.size,none⟩ 1).heap.size=w.heap.size:=by
  unfold World.freeze;rw[if_neg (by decide)];simp
 refine⟨λB' o=>?_,N,rfl,rfl,rfl,I,λB' U=>?_⟩
 ·by_cases e:B'=B
  ·subst e;unfold cl World.cell?;simp[O,M]
  ·exact cX (I B' e) o
 ·by_cases e:B'=B
  ·subst e;by_cases h:J=K
   ·exact⟨c,el,c.size,c.size+1,by rw[O];simp[h],.inr (ya1 _)⟩
   ·have V:c.size≤J:=hr.resolve_left h;exact⟨c,el,min J c.size,max K (c.size+1),by rw[O];simp[h],.inr (by omega)⟩
  ·exact U.of_heap (I B' e)
theorem Ef{boxed:Bool}{I dst:TypeId}{rs:Nat}{x:AV}{cv:Value}(hM:aI G w mem)(h:j7 P boxed I dst mem rs x=some out)(hx:VR G w x cv):
  ∃M J r,(convert I dst cv).run P w= .ok r J/\VR M J out.v r/\cJ G M/\Ev G w J/\aI M J (out.apply mem):=by
 have still: ∀{o:cU} {r:Value},o.wr= []->o.push= []->(convert I dst cv).run P w= .ok r w->VR G w o.v r->
   ∃M J r,(convert I dst cv).run P w= .ok r J/\VR M J o.v r/\cJ G M/\Ev G w J/\aI M J (o.apply mem):=
  λh1 h2 hr hv=>⟨G,w,_,hr,hv,cJ.refl G,Ev.refl G w,by simp only[cU.apply,h1,h2,aM,yg1];exact hM⟩
 unfold j7 at h;split at h
 ·rename_i k1 k n kk hs W;obtain rfl:=ya h;obtain rfl:=hx.lit_inv;exact still rfl rfl (by simp[convert,run_underlying hs,run_underlying W,Conv.intToInt]) (.lit _ rfl)
 ·rename_i s hs W;obtain rfl:=ya h;obtain rfl:=hx.lit_inv;exact still rfl rfl (by simp[convert,run_underlying hs,run_underlying W]) (.lit _ rfl)
 ·rename_i e hs W;split at h
  ·rename_i he;rw[bind_some]at h;obtain⟨v,hv,h⟩:=h;rw[aA]at h;obtain⟨hg,h⟩:=h;simp only[yb]at hg;obtain⟨vw,rd⟩:=v;simp only at h hv;split at h
   ·rename_i xs;obtain rfl:=ya h;have ht:gW P e=some 1:=by
     have:=hg.2;split at this
     ·assumption
     ·simp at this
    exact still rfl rfl (G7 hM hs he W hv ht hg.1 hx) (.lit _ rfl)
   ·simp at h
  ·simp at h
 ·rename_i e0 e b g hs W;split at h
  ·rename_i he;rw[aA]at h;obtain⟨O,h⟩:=h;rw[bind_some]at h;obtain⟨bx,hbx,h⟩:=h;rw[aA]at h;obtain⟨h1,h⟩:=h;obtain rfl:=ya h;have O:=bI.1 O;have h1:=cE.1 h1;have K:=box?_some hbx;obtain⟨o,a0,hl,ha0,hm⟩:=(hM.box b bx K.1).loc;rw[K.2]at hl;have U: ∃B a1 cap,cv= .slice (some ⟨B,a1,none⟩) bx.row.len cap/\G.mine B/\fL w B:=by
    cases hx with
    |msw _ _ cap L B H hb hn hf=>
     rw[hl]at H;obtain rfl:=ya H;simp only at hb;subst hb;exact⟨B,_,cap,rfl,hm.1,hm.2.2.1⟩
    |mswNil _ _ L H hb hn=>
     rw[hl]at H;obtain rfl:=ya H;simp only at hn;omega
   obtain⟨B,a1,cap,rfl,V,hF⟩:=U;obtain⟨w1,Z,hc,Y,ho,hos,htp,hne,hfr⟩:=N7 (P:=P) hF;have N:Ev G w w1:=⟨by rw[Y];exact ya1 _,ho,hos,λB' _ hn=>hne B' (λe=>hn (by rw[e];exact V)),λB' j hs=>by rw[hc];exact hs,λ_ B' j _=>hc B' j,
    λB' j hj=>by
     by_cases e:B'=B
     ·subst e;rw[hF.cell hj,(hfr _ hF).cell (by rw[hc];exact hj)]
     ·exact Dl (hne B' e) j,htp⟩
   refine⟨G,w1,_,?_,hx.mono (cJ.refl G) N,cJ.refl G,N,by simp only[cU.apply,aM,yg1];exact hM.sameCells N hc Y hfr⟩;subst O;simp[convert,run_underlying hs,run_underlying he,Z]<;>simp_all[run_underlying]
  ·simp at h
 ·simp at h
end
end Go.Ab
end
