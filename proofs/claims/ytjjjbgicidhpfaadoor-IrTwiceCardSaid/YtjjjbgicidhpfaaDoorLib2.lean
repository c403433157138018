/- The evaluator. -/
import Derived.Test.YtjjjbgicidhpfaaDoorLib1
import Derived.Laws.AppendOwn
import Derived.Deep.Upon
import Derived.Laws.MakeOwn
import Derived.Great.BuildSlice
import Derived.Laws.BytesString
import Derived.Laws.Cells
import Derived.Lib.AppendZeros
set_option linter.unusedVariables false
set_option linter.unusedSectionVars false
set_option linter.unusedSimpArgs false
section
namespace Go.Ab
variable [cF]
section
variable {P:Program}
def bL(G:Gh)(w:World)(v:aL)(vs:List Value):Prop:=
 vs.length=v.len*v.e/\(∀u∈vs,u.oneCell'=true)/\
 match v with
 | .ints k xs=> ∀(i:Nat) (x:Int),xs[i]?=some x->vs[i]?=some (.int k x)
 | .pvs β e xs=>(∀x∈xs,x.cells.length=e)/\∀(i:Nat) (x:PV) (c:Nat) (y:PV),xs[i]?=some x->x.cells[c]?=some y->∃u,vs[i*e+c]?=some u/\PR w (G.prot β) y u
 | .avs e cs=>cs.length=e*aR e cs.length/\∀(j:Nat) (y:AV),cs[j]?=some y->∃u,vs[j]?=some u/\VR G w y u
theorem rJ(r:aZ):r.all.e=r.e:=by cases r<;>rfl
theorem dX(r:aZ):r.all.len=r.len:=by cases r<;>rfl
theorem lP(v:aL):v.row.e=v.e:=by cases v<;>rfl
theorem f9(v:aL):v.row.len=v.len:=by cases v<;>rfl
theorem kN(v:aL):v.row.all=v:=by cases v<;>rfl
theorem kU(v:aL):v.row.isOwn=false:=by cases v<;>rfl
theorem iE{e n:Nat}(he:1≤e)(k:Nat):aR e (k*e)=k:=by
 unfold aR;have H:Nat.beq e 0=false:=by
  cases e with
  |zero=>omega
  |succ e=>rfl
 rw[H];simp only[yh];cases J:Nat.beq e 1 with
 |true=>rw[Nat.eq_of_beq_eq_true J];simp
 |false=>simp only[yh];exact Nat.mul_div_cancel k (by omega)
theorem iD.toList{G:Gh}{w:World}{B a:Nat}{r:aZ}(he:1≤r.e)(ho:r.isOwn=false)(ha:r.isInts=false->a=0)(h:iD G w B a r):
  ∃vs:List Value,bL G w r.all vs/\∀j,j<vs.length->cl w B (a+j)=vs[j]?:=by
 cases r with
 |ints k xs=>
  refine⟨xs.map (.int k),⟨by simp[aL.len,aL.e,aZ.all],by simp[Value.oneCell'],λi x U=>by simp[U]⟩,λj H=>?_⟩;simp at H;rw[h j xs[j] (yf H)];simp[H]
 |pvs β e xs=>
  obtain rfl:=ha rfl;simp only[yc1];obtain⟨N,M⟩:=h;have V: ∀j,j<xs.length*e->∃v,cl w B j=some v/\v.oneCell'=true:=by
   intro j H;have hi:j/e<xs.length:=by rw[Nat.div_lt_iff_lt_mul (by simp[aZ.e]at he;omega)];exact H
   have hc:j%e<(xs[j/e]).cells.length:=by rw[N _ (yk2 _)];exact Nat.mod_lt _ (by simp[aZ.e]at he;omega)
   obtain⟨v,J,K,_⟩:=M (j/e) (xs[j/e]) (j%e) ((xs[j/e]).cells[j%e]) (yf _) (yf _);rw[show j/e*e+j%e=j by rw[yx2];exact Nat.div_add_mod j e]at J;exact⟨v,J,K⟩
  refine⟨(List.range (xs.length*e)).map (λj=>(cl w B j).getD undef),⟨by simp[aL.len,aL.e,aZ.all],?_,N,?_⟩,?_⟩
  ·intro u W;obtain⟨j,H,rfl⟩:=yh3.1 W;obtain⟨v,J,K⟩:=V j (by simpa using H);rw[J];exact K
  ·intro i x c y U O;have hi:=(yd.1 U).1;have hc:=(yd.1 O).1;obtain⟨v,J,_,Y⟩:=M i x c y U O;have Z:i*e+c<xs.length*e:=by
    rw[N x (yk U)]at hc
    calc i*e+c<i*e+e:=by omega
     _=(i+1)*e:=by rw[yt1];simp
     _≤xs.length*e:=ym2 _ hi
   exact⟨v,by simp[Z,J],Y⟩
  ·intro j H;simp at H;obtain⟨v,J,_⟩:=V j H;simp[H,J]
 |cells e cs=>
  obtain rfl:=ha rfl;simp only[yc1];obtain⟨N,M⟩:=h;refine⟨(List.range cs.length).map (λj=>(cl w B j).getD undef),⟨?_,?_,N,?_⟩,?_⟩
  ·simp only[aL.len,aL.e,aZ.all,yk1,List.length_range];rw[yx2];exact N
  ·intro u W;obtain⟨j,H,rfl⟩:=yh3.1 W;obtain⟨v,J,K,_⟩:=M j (cs[j]'(by simpa using H)) (yf _);rw[J];exact K
  ·intro j y O;have H:=(yd.1 O).1;obtain⟨v,J,_,Y⟩:=M j y O;exact⟨v,by simp[H,J],Y⟩
  ·intro j H;simp at H;obtain⟨v,J,_⟩:=M j (cs[j]) (yf _);simp[H,J]
 |own e xs hs=>cases ho
theorem iD.ofList{G:Gh}{w:World}{B a:Nat}{r:aZ}{vs:List Value}(U:r.isOwn=false)(N:r.isInts=false->a=0)(h:bL G w r.all vs)(hc: ∀j u,vs[j]?=some u->cl w B (a+j)=some u):iD G w B a r:=by
 obtain⟨hl,O,h⟩:=h;cases r with
 |ints k xs=>exact λi x M=>hc _ _ (h i x M)
 |pvs β e xs=>
  obtain rfl:=N rfl;simp only[yc1]at hc;refine⟨h.1,λi x c y M K=>?_⟩;obtain⟨u,H,J⟩:=h.2 i x c y M K;exact⟨u,hc _ _ H,O u (yk H),J⟩
 |cells e cs=>
  obtain rfl:=N rfl;simp only[yc1]at hc;refine⟨h.1,λj y K=>?_⟩;obtain⟨u,H,J⟩:=h.2 j y K;exact⟨u,hc _ _ H,O u (yk H),J⟩
 |own e xs hs=>cases U
theorem bL.mono{G O:Gh}{w U:World}(N:c5 G O)(M:Ev G w U){v:aL}{vs:List Value}(h:bL G w v vs):bL O U v vs:=by
 obtain⟨W,Y,h⟩:=h;refine⟨W,Y,?_⟩;cases v with
 |ints k xs=>exact h
 |pvs β e xs=>exact⟨h.1,λi x c y V K=>by obtain⟨u,H,J⟩:=h.2 i x c y V K;exact⟨u,H,J.mono (N.prot β) (M.prot β)⟩⟩
 |avs e cs=>exact⟨h.1,λj y K=>by obtain⟨u,H,J⟩:=h.2 j y K;exact⟨u,H,J.mono N M⟩⟩
theorem SP{G:Gh}{w:World}{β:Bool}{t:TypeId}{p:PV}{c:Nat}{a:AV}(h:Pq P β t p c=some a){cv:Nat->Value}(hr: ∀j y,p.cells[j]?=some y->PR w (G.prot β) y (cv j)):
  ∀(j:Nat) (y:AV),a.cells[j]?=some y->VR G w y (cv (c+j))/\∃q,p.cells[c+j]?=some q:=by
 unfold Pq at h;split at h
 ·rw[bind_some]at h;obtain⟨ls,O,h⟩:=h;rw[bind_some]at h;obtain⟨n,hn,h⟩:=h;rw[aA]at h;obtain⟨W,h⟩:=h;rw[bind_some]at h;obtain⟨as,K,h⟩:=h;obtain rfl:=ya h;obtain⟨N,hf⟩:=oS (G:=G) (w:=w) K;obtain⟨V,U⟩:=hf (λj=>cv (c+j)) (λj y H _=>hr _ y H);intro j y H;have H:as[j]?=some y:=H;exact⟨U j y H,V j (by rw[<-N];exact(yd.1 H).1)⟩
 ·rw[bind_some]at h;obtain⟨l,N,h⟩:=h;rw[bind_some]at h;obtain⟨q,M,h⟩:=h;have Y:=rT (G:=G) (w:=w) h (hr c q M);intro j y H;have J:a.cells= [a]:=by
   unfold gJ at h;split at h<;>(rw[bind_some]at h;obtain⟨x,_,h⟩:=h;obtain rfl:=ya h;rfl)
  rw[J]at H;cases j with
  |zero=>simp at H;subst H;exact⟨Y,q,M⟩
  |succ j=>simp at H
 ·simp at h
theorem Fh{G:Gh}{w:World}{β:Bool}{t:TypeId}{e:Nat}: ∀{xs:List PV} {cs:List AV} {vs:List Value},Hc P t β e xs=some cs->vs.length=xs.length*e->
  (∀(i:Nat) (x:PV) (c:Nat) (y:PV),xs[i]?=some x->x.cells[c]?=some y->∃u,vs[i*e+c]?=some u/\PR w (G.prot β) y u)->iW G w cs vs
 | [],cs,vs,h,M,_=>by
  simp[Hc]at h;subst h;simp at M;subst M;exact⟨rfl,λj y H=>by simp at H⟩
 |p::r,cs,vs,h,M,Y=>by
  simp only[Hc]at h;rw[bind_some]at h;obtain⟨v,hv,h⟩:=h;rw[aA]at h;obtain⟨O,h⟩:=h;have O:=bN.1 O;obtain⟨Z,V,rfl⟩:=ye.1 h;have J:vs.length=e+r.length*e:=by rw[M];simp[yt1,Nat.add_comm]
  have W:=Fh (G:=G) (w:=w) (vs:=vs.drop e) V (by simp[J]) (λi x c y hx H=>by
   obtain⟨u,K,N⟩:=Y (i+1) x c y (by simpa using hx) H;refine⟨u,?_,N⟩
   rw[ye1,show e+(i*e+c)=(i+1)*e+c by rw[yt1];omega];exact K)
  have U:=SP (P:=P) (G:=G) (w:=w) hv (cv:=λj=>vs.getD j undef) (λj y H=>by
   obtain⟨u,K,N⟩:=Y 0 p j y rfl H;simp only[yr3,yc1]at K
   rw[ym,K];exact N)
  refine⟨by rw[yi,O,W.1];simp;omega,λj y H=>?_⟩;by_cases hj:j<v.cells.length
  ·rw[yq hj]at H;simpa using(U j y H).1
  ·rw[yx (by omega)]at H;have:=W.2 _ y H;rw[ym,ye1]at this;rw[ym,show j=e+(j-v.cells.length) by omega];exact this
theorem I6: ∀{cs:List AV},jX cs=true->∀v∈cs,KB v=true
 |v::r,h,u,H=>by
  simp only[jX,yc]at h;cases H with
  |head=>exact h.1
  |tail _ H=>exact I6 h.2 u H
theorem LN{G:Gh}{w:World}{a:AV}{v:Value}(h:VR G w a v)(H:KB a=true):v.oneCell'=true:=by
 cases h with
 |lit v hv=>exact H
 |imm β p v J hs=>cases J<;>first|rfl|simp[PV.isSl]at hs
 |dead v h h'=>exact h
 |agg=>simp[KB]at H
 |tup=>simp[KB]at H
 |_=>rfl
theorem iW.ones{G:Gh}{w:World}{cs:List AV}{vs:List Value}(h:iW G w cs vs)(M:jX cs=true): ∀u∈vs,u.oneCell'=true:=by
 intro u K;obtain⟨j,J,rfl⟩:=yx1 K;have H:j<cs.length:=by rw[h.1];exact J
 have:=h.2 j cs[j] (yf H);rw[ym,yf J]at this;exact LN this (I6 M _ (yk2 _))
theorem Ej{G:Gh}{w:World}{t:TypeId}{v:aL}{cs:List AV}{vs:List Value}(h:v.toAvs P t=some cs)(H:bL G w v vs):iW G w cs vs:=by
 obtain⟨J,h1,H⟩:=H;cases v with
 |ints k xs=>
  obtain rfl:=ya h;simp only[aL.len,aL.e,yt3]at J;refine⟨by simp[J],λj y K=>?_⟩;obtain⟨x,hx,rfl⟩: ∃x,xs[j]?=some x/\AV.lit (.int k x)=y:=by simpa using K
  rw[ym,H j x hx];exact .lit _ rfl
 |pvs β e xs=>exact Fh h J H.2
 |avs e O=>
  obtain rfl:=ya h;simp only[aL.len,aL.e]at J;refine⟨by rw[J,yx2];exact H.1,λj y K=>?_⟩;obtain⟨u,M,N⟩:=H.2 j y K;rw[ym,M];exact N
theorem iW.append{G:Gh}{w:World}{a b:List AV}{u v:List Value}(h:iW G w a u)(K:iW G w b v):iW G w (a++b) (u++v):=by
 refine⟨by simp[h.1,K.1],λj y H=>?_⟩;by_cases J:j<a.length
 ·rw[yq J]at H;rw[ym,yq (by rw[<-h.1];exact J),<-ym];exact h.2 j y H
 ·rw[yx (by omega)]at H;rw[ym,yx (by rw[<-h.1];omega),<-ym,<-h.1];exact K.2 _ y H
theorem PR.weak{w:World}{G:Gh}(H: ∀B o,G.prot false B o->G.prot true B o){β β':Bool}{p:PV}{v:Value}(h:PR w (G.prot β) p v):PR w (G.prot (β||β')) p v:=by
 cases β<;>cases β'<;>first|exact h|exact h.mono (λ_ _ x=>H _ _ x) (λ_ _ _=>rfl)
theorem PR.weak'{w:World}{G:Gh}(H: ∀B o,G.prot false B o->G.prot true B o){β β':Bool}{p:PV}{v:Value}(h:PR w (G.prot β) p v):PR w (G.prot (β'||β)) p v:=by
 rw[Bool.or_comm];exact h.weak H
theorem Dc{G:Gh}{w:World}(U: ∀B o,G.prot false B o->G.prot true B o){t:TypeId}{x y z:aL}{vs us:List Value}(h:x.app P t y=some z)(J:bL G w x vs)(W:bL G w y us):
  bL G w z (vs++us)/\z.e=x.e/\z.e=y.e/\z.len=x.len+y.len:=by
 unfold aL.app at h;split at h
 ·rename_i k xs k' ys;rw[aA]at h;obtain⟨hk,h⟩:=h;rw[kS]at hk;subst hk;obtain rfl:=ya h;obtain⟨M,o1,Y⟩:=J;obtain⟨V,o2,y2⟩:=W;simp only[aL.len,aL.e,yt3]at M V;refine⟨⟨by simp[aL.len,aL.e,M,V],λu K=>(yn1.1 K).elim (o1 u) (o2 u),λi x J=>?_⟩,rfl,rfl,by simp[aL.len]⟩;by_cases hi:i<xs.length
  ·rw[yq hi]at J;rw[yq (by omega)];exact Y i x J
  ·rw[yx (by omega)]at J;rw[yx (by omega),M];exact y2 _ x J
 ·rename_i β e xs β' e' ys;rw[aA]at h;obtain⟨he,h⟩:=h;obtain rfl:=bN.1 he;obtain rfl:=ya h;obtain⟨M,o1,Y⟩:=J;obtain⟨V,o2,y2⟩:=W;simp only[aL.len,aL.e]at M V;refine⟨⟨by simp[aL.len,aL.e,M,V,yt1],λu K=>(yn1.1 K).elim (o1 u) (o2 u),λx J=>(yn1.1 J).elim (Y.1 x) (y2.1 x),λi x c y J W=>?_⟩,rfl,rfl,by simp[aL.len]⟩;by_cases hi:i<xs.length
  ·rw[yq hi]at J;obtain⟨u,K,hp⟩:=Y.2 i x c y J W;exact⟨u,by rw[yq (yd.1 K).1];exact K,hp.weak U⟩
  ·rw[yx (by omega)]at J;obtain⟨u,K,hp⟩:=y2.2 _ x c y J W;refine⟨u,?_,hp.weak' U⟩;have e1:i*e=xs.length*e+(i-xs.length)*e:=by rw[<-yt1];congr 1;omega
   rw[yx (by rw[M,e1];omega),M,show i*e+c-xs.length*e=(i-xs.length)*e+c by omega];exact K
 ·rename_i e xs;rw[bind_some]at h;obtain⟨ys,hys,h⟩:=h;rw[aA]at h;obtain⟨hc,h⟩:=h;obtain rfl:=ya h;simp only[yc]at hc;obtain⟨⟨hones,he⟩,Z⟩:=hc;obtain rfl:=bN.1 he;have Z:=cO.1 Z;have hL:=Ej hys W;obtain⟨M,o1,Y⟩:=J;obtain⟨V,o2,y2⟩:=W;replace M:vs.length=aR y.e xs.length*y.e:=M;have hcx:xs.length=aR y.e xs.length*y.e:=by rw[yx2];exact Y.1
  have hcy:ys.length=y.len*y.e:=by rw[hL.1];exact V
  have O:(xs++ys).length=(aR y.e xs.length+y.len)*y.e:=by rw[yi,hcy,yt1];omega
  have H:aR y.e (xs++ys).length=aR y.e xs.length+y.len:=by rw[O];exact iE (n:=0) Z _
  have hxv:iW G w xs vs:=⟨by rw[M];exact hcx,λj z hz=>by obtain⟨u,K,hp⟩:=Y.2 j z hz;rw[ym,K];exact hp⟩
  have N:=hxv.append hL;refine⟨⟨?_,λu K=>(yn1.1 K).elim (o1 u) (o2 u),?_,λj z hz=>?_⟩,rfl,rfl,?_⟩
  ·show(vs++us).length=aR y.e (xs++ys).length*y.e
   rw[H,<-O,N.1]
  ·rw[H,yx2];exact O
  ·have hj:j<(vs++us).length:=by rw[<-N.1];exact(yd.1 hz).1
   have:=N.2 j z hz;rw[ym,yf hj]at this;exact⟨_,yf hj,this⟩
  ·exact H
 ·simp at h
end
end Go.Ab
end
section
namespace Go.Ab
variable [cF]
section
variable {P:Program}
theorem Df{e i c n:Nat}(hc:c<e)(H:i<n):i*e+c<n*e:=by
 calc i*e+c<i*e+e:=by omega
  _=(i+1)*e:=by rw[yt1];simp
  _≤n*e:=ym2 _ H
theorem Cz{e i c:Nat}(hc:c<e):(i*e+c)/e=i/\(i*e+c)%e=c:=by
 constructor
 ·rw[yx2,Nat.mul_add_div (by omega),Nat.div_eq_of_lt hc];simp
 ·rw[yx2,Nat.mul_add_mod,Nat.mod_eq_of_lt hc]
theorem KU{P:Program}(w:World){size:Nat}{H M:TypeId}(J:P.underlying H=some (.slice M))(a:Option Addr):Src P size H (.slice a 0 0) 0 [] w:=by
 cases a with
 |none=>exact Src.ofNil w J 0
 |some a=>exact Src.ofSlice w J a 0 0 [] (by simp) (λj u K=>by simp at K) (by simp)
theorem PR.view{w:World}{G:Gh}{β:Bool}{e:Nat}{xs:List PV}{cv:Value}(h:PR w (G.prot β) (.sl e xs) cv):
  (xs= []/\∃a,cv= .slice a 0 0)\/∃B o cap vs,cv= .slice (some ⟨B,o,none⟩) xs.length cap/\1≤e/\xs.length≤cap/\bL G w (.pvs β e xs) vs/\∀j u,vs[j]?=some u->cl w B (o+j)=some u/\G.prot β B (o+j):=by
 cases h with
 |slNil _ a=>exact .inl ⟨rfl,a,rfl⟩
 |sl _ _ B o cap cv W O H h h1 hr=>
  have U: ∀j,j<xs.length*e->∃x y,xs[j/e]?=some x/\x.cells[j%e]?=some y:=by
   intro j M;have V:j/e<xs.length:=by rw[Nat.div_lt_iff_lt_mul (by omega)];exact M
   have hc:j%e<(xs[j/e]).cells.length:=by rw[H _ (yk2 _)];exact Nat.mod_lt _ (by omega)
   exact⟨_,_,yf V,yf hc⟩
  refine .inr ⟨B,o,cap,(List.range (xs.length*e)).map (λj=>cv (j/e) (j%e)),rfl,W,O,⟨by simp[aL.len,aL.e],?_,H,?_⟩,?_⟩
  ·intro u N;obtain⟨j,M,rfl⟩:=yh3.1 N;obtain⟨x,y,J,K⟩:=U j (by simpa using M);exact h1 _ x _ y J K
  ·intro i x c y J K;have V:=(yd.1 J).1;have hc:=(yd.1 K).1;rw[H x (yk J)]at hc;obtain⟨Z,Y⟩:=Cz (i:=i) hc;exact⟨cv i c,by simp[Df hc V,Z,Y],hr i x c y J K⟩
  ·intro j u N;have M:j<xs.length*e:=by have:=(yd.1 N).1;simpa using this
   simp[M]at N;subst N;obtain⟨x,y,J,K⟩:=U j M;have:=h _ x _ y J K;rw[show o+j/e*e+j%e=o+j by rw[ye2,yx2,Nat.div_add_mod]]at this;exact this
theorem zB{G:Gh}{w:World}{r:aZ}{o n:Nat}{v:aL}{vs:List Value}(he:1≤r.e)(h:r.sub o n=some v)(hr:bL G w r.all vs):
  bL G w v ((vs.drop (o*r.e)).take (n*r.e))/\v.e=r.e/\v.len=n/\o+n≤r.len:=by
 obtain⟨O,h1,hr⟩:=hr;have M: ∀u∈(vs.drop (o*r.e)).take (n*r.e),u.oneCell'=true:=λu V=>h1 u (List.mem_of_mem_drop (yf3 V));cases r with
 |ints k xs=>
  simp only[aZ.sub]at h;rw[aA]at h;obtain⟨H,h⟩:=h;have H:=cO.1 H;obtain rfl:=ya h;simp only[aZ.all,aL.len,aL.e,yt3]at O;refine⟨⟨by simp[aL.len,aL.e,aZ.e,O],M,λi x N=>?_⟩,rfl,by simp[aL.len];omega,H⟩;have W:i<n:=by have:=(yd.1 N).1;simp at this;omega
  rw[yp1 W,ye1]at N;simp only[aZ.e,yt3];rw[yp1 W,ye1];exact hr _ _ N
 |pvs β e xs=>
  simp only[aZ.sub]at h;rw[aA]at h;obtain⟨H,h⟩:=h;have H:=cO.1 H;obtain rfl:=ya h;simp only[aZ.all,aL.len,aL.e]at O;simp only[aZ.e]at he;have K:((xs.drop o).take n).length=n:=by simp;omega
  refine⟨⟨?_,M,λx N=>hr.1 x (List.mem_of_mem_drop (yf3 N)),λi x c y N U=>?_⟩,rfl,K,H⟩
  ·simp only[aL.len,aL.e,K,aZ.e,yn2,yb4,O];rw[<-Nat.mul_sub_right_distrib];exact Nat.min_eq_left (ym2 _ (by omega))
  ·have W:i<n:=by have:=(yd.1 N).1;omega
   rw[yp1 W,ye1]at N;obtain⟨u,V,Z⟩:=hr.2 _ x c y N U;have hc:=(yd.1 U).1;rw[hr.1 x (yk N)]at hc;refine⟨u,?_,Z⟩;simp only[aZ.e];rw[yp1 (Df hc W),ye1,show o*e+(i*e+c)=(o+i)*e+c by rw[yt1];omega];exact V
 |cells e cs=>
  simp only[aZ.sub]at h;rw[aA]at h;obtain⟨H,h⟩:=h;have H:=cO.1 H;obtain rfl:=ya h;simp only[aZ.e]at he;have Y:cs.length=aR e cs.length*e:=by rw[yx2];exact hr.1
  replace O:vs.length=aR e cs.length*e:=O;have hon:o+n≤aR e cs.length:=by
   rw[Y]at H;exact Nat.le_of_mul_le_mul_right H (by omega)
  have K:((cs.drop (o*e)).take (n*e)).length=n*e:=by
   simp only[yn2,yb4];rw[yt1]at H;omega
  have J:aR e ((cs.drop (o*e)).take (n*e)).length=n:=by rw[K];exact iE (n:=0) he n
  refine⟨⟨?_,M,?_,λj y U=>?_⟩,rfl,J,hon⟩
  ·show _=aR e ((cs.drop (o*e)).take (n*e)).length*e;rw[J];simp only[aZ.e,yn2,yb4,O];rw[<-Y];rw[yt1]at H;omega
  ·rw[J,K,yx2]
  ·have hj:j<n*e:=by have:=(yd.1 U).1;omega
   rw[yp1 hj,ye1]at U;obtain⟨u,V,Z⟩:=hr.2 _ y U;refine⟨u,?_,Z⟩;simp only[aZ.e];rw[yp1 hj,ye1];exact V
 |own e xs hs=>cases h
theorem Gj(G:Gh)(w:World)(s:ByteArray):bL G w (.ints .u8 (dZ s)) (byteCells s):=by
 refine⟨by simp[aL.len,aL.e,dZ,byteCells],λu J=>?_,λi x H=>?_⟩
 ·obtain⟨b,_,rfl⟩:=yh3.1 J;rfl
 ·unfold dZ at H;unfold byteCells;rw[yg1]at H⊢
  obtain⟨b,K,rfl⟩:=ye.1 H;rw[K];rfl
theorem bL.unmark{G:Gh}{w:World}{β β':Bool}{e:Nat}{xs:List PV}{vs:List Value}(hf:xs.all CI=true)(h:bL G w (.pvs β e xs) vs):bL G w (.pvs β' e xs) vs:=by
 refine⟨h.1,h.2.1,h.2.2.1,λi x c y K J=>?_⟩;obtain⟨u,M,N⟩:=h.2.2.2 i x c y K J;refine⟨u,M,?_⟩;have O:=yf1.1 hf x (yk K);have H:=yf1.1 O y (yk J);cases y with
 |lit v=>
  cases N with
  |lit _ h=>exact .lit _ h
 |ints _ _=>cases H
 |sl _ _=>cases H
 |agg _=>cases H
theorem bL.unmarkIf{G:Gh}{w:World}{c β:Bool}{e:Nat}{xs:List PV}{vs:List Value}(h:bL G w (.pvs β e xs) vs):bL G w (.pvs (bif c&&xs.all CI then false else β) e xs) vs:=by
 cases hc:(c&&xs.all CI)with
 |false=>exact h
 |true=>exact h.unmark (yc _ _ ▸ hc).2
theorem A5{G:Gh}{w:World}{mem:aK}{et tx:TypeId}{y:AV}{v:aL×List Nat}{cv:Value}(hM:aH G w mem)(h:view P et mem y=some v)(hy:VR G w y cv)(hs:jR P et=some v.1.e)(M:z8 P tx y=true):
  ∃news,Src P v.1.e tx cv v.1.len news w/\bL G w v.1 news:=by
 have J:(∀s,y≠ .lit (.string s))->∃e',P.underlying tx=some (.slice e'):=by
  intro hne;unfold z8 at M;split at M
  ·rename_i s _;exact absurd rfl (hne s)
  ·simp at M
  ·exact⟨_,by assumption⟩
  ·simp at M
 unfold view at h;split at h
 ·rename_i β k xs;obtain rfl:=ya h;obtain⟨e',O⟩:=J (by simp);cases hy with
  |imm _ _ _ hp=>
   cases hp with
   |intsNil _ a=>exact⟨[],KU w O a,by simp[aL.len,aL.e],by simp,λi x U=>by simp at U⟩
   |ints _ _ B o cap hcap hh=>
    refine⟨xs.map (.int k),Src.ofSlice w O ⟨B,o,none⟩ _ cap _ (by simp[aL.len,aL.e]) (λj u V=>?_) (by simp[Value.oneCell']),by simp[aL.len,aL.e],by simp[Value.oneCell'],λi x U=>by simp[U]⟩;obtain⟨x,U,rfl⟩: ∃x,xs[j]?=some x/\Value.int k x=u:=by simpa using V
    rw[dC];exact(hh j x U).1
 ·rename_i β e xs;obtain rfl:=ya h;obtain⟨e',O⟩:=J (by simp);cases hy with
  |imm _ _ _ hp=>
   rcases hp.view with ⟨rfl,a,rfl⟩|⟨B,o,cap,vs,rfl,he,hcap,hv,hc⟩
   ·exact⟨[],KU w O a,by simp[aL.len,aL.e],by simp,λx U=>by simp at U,λi x c y U=>by simp at U⟩
   ·exact⟨vs,Src.ofSlice w O ⟨B,o,none⟩ _ cap vs hv.1 (λj u V=>by rw[dC];exact(hc j u V).1) hv.2.1,hv.unmarkIf⟩
 ·rename_i b g o n;rw[bind_some]at h;obtain⟨W,N,h⟩:=h;obtain⟨vw,H,rfl⟩:=ye.1 h;obtain⟨e',O⟩:=J (by simp);have he:=(hM.box b W (box?_some N).1).e;rcases hM.at_ms N hy with ⟨B,a0,cap,rfl,hn,hon,hl,ha0,hf,_,_,_,hrow,_⟩|⟨rfl,rfl,rfl,hz,_,hl⟩|⟨B,oo,rfl,ho,rfl,hon,_,hl⟩
  ·obtain⟨vs,Z,hcl⟩:=hrow.toList he (box?_own N) ha0;obtain⟨hv,hve,hvl,_⟩:=zB he H Z;refine⟨_,?_,hv⟩;simp only at hs⊢
   rw[hve,hvl];refine Src.ofSlice w O ⟨B,a0+o*W.row.e,none⟩ n cap _ (by rw[hv.1,hve,hvl]) (λj u V=>?_) hv.2.1;rw[dC,ye2];have hj:j<n*W.row.e:=by
    have:=(yd.1 V).1;rw[hv.1,hve,hvl]at this;exact this
   rw[yp1 hj,ye1]at V;have:=hcl _ (yd.1 V).1;rw[V]at this;exact this
  ·have Y:vw.len=0/\vw.e=W.row.e:=by
    obtain⟨gen,frz,row⟩:=W;cases row<;>simp only[aZ.sub]at H<;>first|(cases H;done)|skip<;>rw[aA]at H<;>obtain⟨_,H⟩:=H<;>obtain rfl:=ya H<;>simp[aL.len,aL.e,aZ.e,aR]
   have K:bL G w vw []:=by
    refine⟨by simp[Y.1],by simp,?_⟩;obtain⟨gen,frz,row⟩:=W;cases row<;>simp only[aZ.sub]at H<;>first|(cases H;done)|skip<;>rw[aA]at H<;>obtain⟨_,H⟩:=H<;>obtain rfl:=ya H<;>simp[aR]
   refine⟨[],?_,K⟩;simp only;rw[Y.1];exact Src.ofNil w O 0
  ·have Y:vw.len=0/\vw.e=W.row.e:=by
    obtain⟨gen,frz,row⟩:=W;cases row<;>simp only[aZ.sub]at H<;>first|(cases H;done)|skip<;>rw[aA]at H<;>obtain⟨_,H⟩:=H<;>obtain rfl:=ya H<;>simp[aL.len,aL.e,aZ.e,aR]
   have K:bL G w vw []:=by
    refine⟨by simp[Y.1],by simp,?_⟩;obtain⟨gen,frz,row⟩:=W;cases row<;>simp only[aZ.sub]at H<;>first|(cases H;done)|skip<;>rw[aA]at H<;>obtain⟨_,H⟩:=H<;>obtain rfl:=ya H<;>simp[aR]
   refine⟨[],?_,K⟩;simp only;rw[Y.1];exact Src.ofSlice w O ⟨B,oo,none⟩ 0 0 [] (by simp) (λj u V=>by simp at V) (by simp)
 ·rename_i b g;rw[bind_some]at h;obtain⟨W,N,h⟩:=h;obtain rfl:=ya h;obtain⟨e',O⟩:=J (by simp);have he:=(hM.box b W (box?_some N).1).e;rcases hM.at_msw N hy with ⟨B,a0,cap,rfl,hn,hl,ha0,hf,_,_,_,hrow,_⟩|⟨rfl,hz,hnc,_,hl⟩
  ·obtain⟨vs,Z,hcl⟩:=hrow.toList he (box?_own N) ha0;refine⟨vs,?_,Z⟩;simp only[rJ,dX];refine Src.ofSlice w O ⟨B,a0,none⟩ _ cap vs (by rw[Z.1,rJ,dX]) (λj u V=>?_) Z.2.1;rw[dC];have:=hcl _ (yd.1 V).1;rw[V]at this;exact this
  ·have K:bL G w W.row.all []:=by
    refine⟨by rw[dX,hz];simp,by simp,?_⟩;obtain⟨gen,frz,row⟩:=W;cases row with
    |ints k xs=>simp only[aZ.len]at hz;have:=yu hz;subst this;simp[aZ.all]
    |pvs β e xs=>simp only[aZ.len]at hz;have:=yu hz;subst this;simp[aZ.all]
    |cells e cs=>simp[aZ.isCells]at hnc
    |own e xs hs=>exact absurd (box?_own N) (by simp[aZ.isOwn])
   refine⟨[],?_,K⟩;simp only[dX,hz];exact Src.ofNil w O 0
 ·rename_i s;obtain rfl:=ya h;obtain rfl:=hy.lit_inv;have O:P.underlying tx=some .string:=by
   unfold z8 at M;split at M<;>simp_all
  refine⟨byteCells s,?_,Gj G w s⟩;have:=Src.ofString (P:=P) w O s;simpa[aL.len,aL.e,dZ]using this
 ·obtain⟨e',O⟩:=J (by simp);obtain rfl:=hy.lit_inv;split at h
  ·obtain rfl:=ya h;exact⟨[],Src.ofNil w O 0,by simp[aL.len,aL.e],by simp,λi x U=>by simp at U⟩
  ·obtain⟨e,he,rfl⟩:=ye.1 h;exact⟨[],Src.ofNil w O 0,by simp[aL.len,aL.e],by simp,λx U=>by simp at U,λi x c y U=>by simp at U⟩
 ·simp at h
end
end Go.Ab
end
section
namespace Go.Ab
variable [cF]
def aW(G:Gh)(w:World)(mem:aK)(ids:List Nat)(B _o:Nat):Prop:= ∃b∈ids,∃(x:bK) (C:Nat),mem[b]?=some (some x)/\x.row.okShut=true/\eT G b x C/\(B=C\/∃i c,cN w C x.row i c B)
def Gh.frz(G:Gh)(S:Nat->Nat->Prop):Gh:={G with prot:=fun β B o=>G.prot β B o\/S B o}
theorem c5.frz(G:Gh)(S:Nat->Nat->Prop)(hS: ∀B o,S B o->G.mine B):c5 G (G.frz S):=⟨rfl,λ_ _ _ h=> .inl h,λ_ _ _ h=>h,λ_ B o h=>h.imp id (hS B o)⟩
theorem aH.mine{G:Gh}{w:World}{mem:aK}(hM:aH G w mem){b:Nat}{x:bK}{L:Ff}{B:Nat}(J:mem[b]?=some (some x))(H:G.loc b x.gen=some L)(hB:L.blk=some B):G.mine B:=
 let ⟨_,_,_,h,_⟩:=hM.blk J ⟨L,H,hB⟩;h
theorem aH.inBoxes{G:Gh}{w:World}{mem:aK}(hM:aH G w mem){ids:List Nat}: ∀B o,aW G w mem ids B o->G.mine B:=by
 rintro B o ⟨b,_,x,C,H,_,hB,h⟩
 rcases h with rfl|⟨i,c,J⟩
 ·let ⟨_,_,_,h,_⟩:=hM.blk H hB;exact h
 ·exact(hM.inn H hB J).1
theorem aH.inBoxes_lt{G:Gh}{w:World}{mem:aK}(hM:aH G w mem){ids:List Nat}: ∀B o,aW G w mem ids B o->B<w.heap.size:=by
 rintro B o ⟨b,_,x,C,H,_,hB,h⟩
 rcases h with rfl|⟨i,c,J⟩
 ·exact hM.blkSz H hB
 ·exact(hM.inn H hB J).2.1
theorem aW.mono{G:Gh}{w:World}{mem:aK}{ids H:List Nat}(h: ∀b∈ids,b∈H){B o:Nat}(J:aW G w mem ids B o):aW G w mem H B o:=by
 obtain⟨b,K,r⟩:=J;exact⟨b,h b K,r⟩
theorem QZ{r:aZ}(h:r.isOwn=false):r.okShut=true:=by cases r<;>first|rfl|cases h
theorem TJ{r:aZ}(h:r.isOwn=false):r.shut=r:=by cases r<;>first|rfl|cases h
theorem Hj(r:aZ):r.shut.isOwn=false:=by cases r<;>rfl
theorem Q9(r:aZ):r.shut.e=r.e:=by cases r<;>rfl
theorem LJ(r:aZ):r.shut.len=r.len:=by cases r<;>rfl
theorem QV(r:aZ):r.shut.isInts=r.isInts:=by cases r<;>rfl
theorem NB(r:aZ):r.shut.isCells=r.isCells:=by cases r<;>rfl
theorem aW.one{G:Gh}{w:World}{mem:aK}{ids:List Nat}{b:Nat}{x:bK}{L:Ff}{B o:Nat}(K:b∈ids)(M:mem[b]?=some (some x))(J:x.row.isOwn=false)(H:G.loc b x.gen=some L)(hB:L.blk=some B):aW G w mem ids B o:=
 ⟨b,K,x,B,M,QZ J,⟨L,H,hB⟩,.inl rfl⟩
theorem eB(mem:aK): ∀(ids:List Nat) (m:aK) (b:Nat),m.length=mem.length->
  (∀x,mem[b]?=some (some x)->x.row.okShut=true->b∈ids->(aN m (cA mem ids))[b]?=some (some {x with frz:=true,row:=x.row.shut}))/\
  ((b∉ids\/∀x,mem[b]?=some (some x)->x.row.okShut=false)->(aN m (cA mem ids))[b]?=m[b]?)/\(aN m (cA mem ids)).length=mem.length
 | [],m,b,N=>⟨λx _ _ h=>by simp at h,λ_=>rfl,N⟩
 |a::r,m,b,N=>by
  unfold cA;split
  ·rename_i x W;have ha:a<m.length:=by rw[N];exact(yd.1 W).1
   cases M:x.row.okShut with
   |true=>
    simp only[yg,aN];obtain⟨V,O,U⟩:=eB mem r (m.set a (some {x with frz:=true,row:=x.row.shut})) b (by simpa using N);refine⟨λy K J H=>?_,λH=>?_,U⟩
    ·by_cases hr:b∈r
     ·exact V y K J hr
     ·have:b=a:=by simp at H;exact H.resolve_right hr
      subst this;rw[O (.inl hr),yt ha];rw[W]at K;simp at K;subst K;rfl
    ·have Y:a≠b:=by
      rintro rfl
      rcases H with H|H
      ·exact H (yn ..)
      ·rw[H x W]at M;cases M
     rw[O (H.imp (λh hr=>h (yj _ hr)) id),yo Y]
   |false=>
    simp only[yh];obtain⟨V,O,U⟩:=eB mem r m b N;refine⟨λy K J H=>?_,λH=>O (H.imp (λh hr=>h (yj _ hr)) id),U⟩;have:b≠a:=by rintro rfl;rw[W]at K;simp at K;subst K;rw[J]at M;cases M
    exact V y K J (by simp at H;exact H.resolve_left this)
  ·rename_i Z;obtain⟨V,O,U⟩:=eB mem r m b N;refine⟨λy K J H=>?_,λH=>O (H.imp (λh hr=>h (yj _ hr)) id),U⟩;have:b≠a:=by rintro rfl;exact Z y K
   exact V y K J (by simp at H;exact H.resolve_left this)
theorem iD.shut{G:Gh}{w:World}{B a:Nat}{r:aZ}(S:Nat->Nat->Prop)(h:iD G w B a r)(ho:r.isOwn=true)(hok:r.okShut=true)(hS: ∀i c B',cN w B r i c B'->∀o,S B' o):iD (G.frz S) w B a r.shut:=by
 cases r with
 |own e xs hs=>
  cases hs with
  |cons _ _=>cases hok
  |nil=>
   obtain⟨_,hl,hc⟩:=h;refine⟨hl,λi x c y N h2=>?_⟩;obtain⟨v,hv,U,hp⟩:=hc i x c y N h2;refine⟨v,hv,U,?_⟩;rcases hp with ⟨u,rfl,rfl⟩|⟨row,H,hp⟩
   ·exact .lit _ U
   ·have V: ∀B' M n cap,v= .slice (some ⟨B',M,none⟩) n cap->∀o,S B' o:=λB' M n cap hvv=>hS i c B' ⟨⟨x,y,row,N,h2,H⟩,rfl,M,n,cap,by rw[hv,hvv]⟩;cases y with
    |ints k ys=>
     obtain rfl:=ya H;rcases hp with ⟨rfl,h0⟩|⟨B',M,cap,rfl,Z,J,_,_,_,_,hr,_⟩
     ·obtain rfl:=yu h0;exact .intsNil k _
     ·exact .ints k ys B' M cap J λj z hz=>⟨hr j z hz,.inr (V B' _ _ _ rfl _)⟩
    |sl e' ys=>
     simp only[cW]at H;rw[aA]at H;obtain⟨he,H⟩:=H;obtain rfl:=ya H;rcases hp with ⟨rfl,h0⟩|⟨B',M,cap,rfl,Z,J,_,_,_,_,hr,_⟩
     ·obtain rfl:=yu h0;exact .slNil e' _
     ·obtain⟨hr1,K⟩:=hr;obtain rfl:=Z rfl;refine .sl e' ys B' 0 cap (λi c=>(cl w B' (i*e'+c)).getD undef) (cO.1 he) J hr1 (λj z c q W Y=>?_) (λj z c q W Y=>?_) (λj z c q W Y=>?_)
      ·obtain⟨u,O,_,_⟩:=K j z c q W Y;rw[yc1];exact⟨by rw[O];rfl,.inr (V B' _ _ _ rfl _)⟩
      ·obtain⟨u,O,N,_⟩:=K j z c q W Y;rw[O];exact N
      ·obtain⟨u,O,_,N⟩:=K j z c q W Y;rw[O];exact N.mono (λ_ _ h=> .inl h) (λ_ _ _=>rfl)
    |lit u=>simp[cW]at H
    |agg cs=>simp[cW]at H
 |_=>cases ho
theorem aH.freeze{G:Gh}{w:World}{mem:aK}(hM:aH G w mem)(ids:List Nat):aH (G.frz (aW G w mem ids)) w (aN mem (cA mem ids)):=by
 have hg:=c5.frz G (aW G w mem ids) hM.inBoxes;have M: ∀(b:Nat) (y:bK),(aN mem (cA mem ids))[b]?=some (some y)->∃x,mem[b]?=some (some x)/\y.gen=x.gen/\((b∈ids/\x.row.okShut=true/\y.frz=true/\y.row=x.row.shut)\/((b∉ids\/x.row.okShut=false)/\y=x)):=by
  intro b y h;obtain⟨i1,i2,_⟩:=eB mem ids mem b rfl;by_cases hl: ∃x,mem[b]?=some (some x)
  ·obtain⟨x,J⟩:=hl;by_cases Z:b∈ids/\x.row.okShut=true
   ·rw[i1 x J Z.2 Z.1]at h;simp at h;subst h;exact⟨x,J,rfl,.inl ⟨Z.1,Z.2,rfl,rfl⟩⟩
   ·have U:b∉ids\/x.row.okShut=false:=by
     by_cases h1:b∈ids
     ·exact .inr (by cases h2:x.row.okShut<;>simp_all)
     ·exact .inl h1
    rw[i2 (U.imp id (λh x' K=>by rw[J]at K;simp at K;subst K;exact h)),J]at h;simp at h;subst h;exact⟨x,J,rfl,.inr ⟨U,rfl⟩⟩
  ·rw[i2 (.inr (λx J=>absurd ⟨x,J⟩ hl))]at h;exact absurd ⟨y,h⟩ hl
 have W: ∀{b:Nat} {x y:bK} {B:Nat},y.gen=x.gen->eT (G.frz (aW G w mem ids)) b y B->eT G b x B:=by
  rintro b x y B hge ⟨L,hl,hB⟩;exact⟨L,by rw[<-hge];exact hl,hB⟩
 -- blocks of a box that stays as it is are not among those
 have hout: ∀{b:Nat} {x:bK} {B B':Nat},mem[b]?=some (some x)->(b∉ids\/x.row.okShut=false)->eT G b x B->(B'=B\/∃i c,cN w B x.row i c B')->∀o,¬aW G w mem ids B' o:=by
  intro b x B B' J U hB h o hin;obtain⟨b2,hb2,x2,C,hx2,hok2,hC,h2⟩:=hin;have hne:b2≠b:=by
   rintro rfl
   rw[J]at hx2;simp at hx2;subst hx2;rcases U with h|h
   ·exact h hb2
   ·rw[hok2]at h;cases h
  have hO:j8 G w mem b B':=⟨b2,x2,C,hne,hx2,hC,h2⟩
  rcases h with rfl|⟨i,c,V⟩
  ·exact hM.other_ne J hB hO rfl
  ·exact hM.other_inn J hB V hO
 refine⟨λb y h=>?_,λb g h=>?_,λb y g h hlt=>?_,λb b' y y' L L' B h h' l l' k k'=>?_,λb b' y y' B i c B' h k V h' k'=>?_,λb b' y y' B C i c i' c' B' h k V h' k' hi'=>?_,hM.own,λB o h=>?_,fun β B o h=>?_,hM.glob.mono (hg.prot true) λ_ _ _=>rfl⟩
 ·obtain⟨x,J,N,hc⟩:=M b y h;have Z:=hM.box b x J;obtain⟨o,a0,hl,ha0,hm⟩:=Z.loc;rcases hc with ⟨hb1,hok,hf,H⟩|⟨U,rfl⟩
  ·refine⟨by rw[H,Q9];exact Z.e,o,a0,by rw[N,H,Q9,LJ];exact hl,by rw[H,QV];exact ha0,?_⟩;cases o with
   |none=>rw[H,LJ,NB];exact hm
   |some B=>
    obtain⟨h1,h2,h3,h4,h5⟩:=hm;have hB:eT G b x B:=⟨_,hl,rfl⟩
    refine⟨h1,h2,h3,?_,λhff=>by rw[hf]at hff;cases hff⟩;rw[H];cases how:x.row.isOwn with
    |true=>exact h4.shut _ how hok λi c B' V o=>⟨b,hb1,x,B,J,hok,hB,.inr ⟨i,c,V⟩⟩
    |false=>rw[TJ how];exact h4.mono hg (Ev.refl G w) (λ_ _=>rfl) λi c B' V=>by rw[V.own]at how;cases how
  ·refine⟨Z.e,o,a0,hl,ha0,?_⟩;cases o with
   |none=>exact hm
   |some B=>
    obtain⟨h1,h2,h3,h4,h5⟩:=hm;have hB:eT G b y B:=⟨_,hl,rfl⟩
    refine⟨h1,h2,h3,h4.mono hg (Ev.refl G w) (λ_ _=>rfl) (λi c B' V=>⟨.of rfl,fun β o Y=>?_⟩),λhf β o Y=>?_⟩
    ·rcases Y with Y|Y
     ·exact(hM.inn J hB V).2.2.2 β o Y
     ·exact hout J U hB (.inr ⟨i,c,V⟩) o Y
    ·rcases Y with Y|Y
     ·exact h5 hf β o Y
     ·exact hout J U hB (.inl rfl) o Y
 ·refine hM.unset b g λx J=>?_;obtain⟨i1,i2,_⟩:=eB mem ids mem b rfl;by_cases Z:b∈ids/\x.row.okShut=true
  ·exact h _ (i1 x J Z.2 Z.1)
  ·have U:b∉ids\/∀x':bK,mem[b]?=some (some x')->x'.row.okShut=false:=by
    by_cases h1:b∈ids
    ·exact .inr λx' K=>by rw[J]at K;simp at K;subst K;cases h2:x.row.okShut<;>simp_all
    ·exact .inl h1
   exact h x (by rw[i2 U];exact J)
 ·obtain⟨x,J,N,hc⟩:=M b y h;exact hM.gens b x g J (by rw[<-N];exact hlt)
 ·obtain⟨x,J,N,hc⟩:=M b y h;obtain⟨x',K,O,hc'⟩:=M b' y' h';rw[N]at l;rw[O]at l';exact hM.apart b b' x x' L L' B J K l l' k k'
 ·obtain⟨x,J,N,hc⟩:=M b y h;obtain⟨x',K,O,hc'⟩:=M b' y' h';rcases hc with ⟨_,_,_,H⟩|⟨_,rfl⟩
  ·have:=V.own;rw[H,Hj]at this;cases this
  ·exact hM.inA b b' y x' B i c B' J (W rfl k) V K (W O k')
 ·obtain⟨x,J,N,hc⟩:=M b y h;obtain⟨x',K,O,hc'⟩:=M b' y' h';rcases hc with ⟨_,_,_,H⟩|⟨_,rfl⟩
  ·have:=V.own;rw[H,Hj]at this;cases this
  ·rcases hc' with ⟨_,_,_,H⟩|⟨_,rfl⟩
   ·have:=hi'.own;rw[H,Hj]at this;cases this
   ·exact hM.inB b b' y y' B C i c i' c' B' J (W rfl k) V K (W rfl k') hi'
 ·rcases h with h|h
  ·exact .inl (hM.lab B o h)
  ·exact .inr h
 ·rcases h with h|h
  ·exact hM.away β B o h
  ·exact hM.inBoxes_lt B o h
section
variable {P:Program}
theorem r9{α β:Type}{f:α->Option (Bool×β×List Nat)}: ∀{xs:List α} {r:Bool×List β×List Nat},gO f xs=some r->
  r.2.1.length=xs.length/\∀(i:Nat) (x:α),xs[i]?=some x->∃q,f x=some q/\r.2.1[i]?=some q.2.1/\(∀b∈q.2.2,b∈r.2.2)/\(r.1=false->q.1=false)
 | [],r,h=>by simp[gO]at h;subst h;exact⟨rfl,λi x H=>by simp at H⟩
 |v::xs,r,h=>by
  simp only[gO]at h;rw[bind_some]at h;obtain⟨a,V,h⟩:=h;rw[bind_some]at h;obtain⟨q,O,h⟩:=h;obtain rfl:=ya h;obtain⟨W,U⟩:=r9 O;refine⟨by simp[W],λi x H=>?_⟩;cases i with
  |zero=>simp at H;subst H;exact⟨a,V,rfl,λb J=>yz1 _ J,λh=>by simp at h;exact h.1⟩
  |succ i=>
   obtain⟨K,Z,M,N,Y⟩:=U i x (by simpa using H);exact⟨K,Z,by simpa using M,λb J=>ya2 _ (N b J),λh=>Y (by simp at h;exact h.2)⟩
theorem yU{α β γ:Type}{f:γ->α->Option (Bool×β×List Nat)}: ∀{ls:List γ} {xs:List α} {r:Bool×List β×List Nat},cD f ls xs=some r->
  r.2.1.length=xs.length/\ls.length=xs.length/\∀(i:Nat) (x:α),xs[i]?=some x->∃l q,ls[i]?=some l/\f l x=some q/\r.2.1[i]?=some q.2.1/\(∀b∈q.2.2,b∈r.2.2)/\(r.1=false->q.1=false)
 | [],[],r,h=>by simp[cD]at h;subst h;exact⟨rfl,rfl,λi x H=>by simp at H⟩
 |l::ls,v::xs,r,h=>by
  simp only[cD]at h;rw[bind_some]at h;obtain⟨a,Z,h⟩:=h;rw[bind_some]at h;obtain⟨q,W,h⟩:=h;obtain rfl:=ya h;obtain⟨hl,K,Y⟩:=yU W;refine⟨by simp[hl],by simp[K],λi x H=>?_⟩;cases i with
  |zero=>simp at H;subst H;exact⟨l,a,rfl,Z,rfl,λb J=>yz1 _ J,λh=>by simp at h;exact h.1⟩
  |succ i=>
   obtain⟨M,O,N,h1,U,V,h4⟩:=Y i x (by simpa using H);exact⟨M,O,by simpa using N,h1,by simpa using U,λb J=>ya2 _ (V b J),λh=>h4 (by simp at h;exact h.2)⟩
 | [],_::_,r,h=>by simp[cD]at h
 |_::_,[],r,h=>by simp[cD]at h
theorem AY{α:Type}{e:Nat}: ∀{n:Nat} {cs:List α} {i:Nat},i<n->(chunks e n cs)[i]?=some ((cs.drop (i*e)).take e)
 |n+1,cs,0,h=>by simp[chunks]
 |n+1,cs,i+1,h=>by
  simp only[chunks,ym1];rw[AY (by omega),List.drop_drop];congr 3;rw[yt1];omega
theorem gH{α:Type}{e:Nat}: ∀{n:Nat} {cs:List α},(chunks e n cs).length=n
 |0,cs=>rfl
 |n+1,cs=>by simp[chunks,gH]
theorem sub_zero{r:aZ}{o:Nat}{v:aL}(h:r.sub o 0=some v):(∃k,v= .ints k [])\/(∃β e,v= .pvs β e [])\/(∃e,v= .avs e []):=by
 cases r<;>simp only[aZ.sub]at h<;>first|(cases h;done)|skip<;>rw[aA]at h<;>obtain⟨_,h⟩:=h<;>obtain rfl:=ya h<;>simp
theorem PR.intsZ{w:World}{H:Nat->Nat->Prop}(k:IntKind)(a:Option Addr)(K: ∀x,a=some x->x.spot=none):PR w H (.ints k []) (.slice a 0 0):=by
 cases a with
 |none=>exact .intsNil k _
 |some a=>obtain⟨B,o,s⟩:=a;obtain rfl:=K _ rfl;exact .ints k [] B o 0 (by simp) (λi x J=>by simp at J)
theorem PR.slZ{w:World}{J:Nat->Nat->Prop}{e:Nat}(M:1≤e)(a:Option Addr)(K: ∀x,a=some x->x.spot=none):PR w J (.sl e []) (.slice a 0 0):=by
 cases a with
 |none=>exact .slNil e _
 |some a=>obtain⟨B,o,s⟩:=a;obtain rfl:=K _ rfl;exact .sl e [] B o 0 (λ_ _=>undef) M (by simp) (λx H=>by simp at H) (λi x c y H=>by simp at H) (λi x c y H=>by simp at H) (λi x c y H=>by simp at H)
theorem Rb{r:aZ}{o n:Nat}{v:aL}(h:r.sub o n=some v):v.e=r.e:=by
 cases r<;>simp only[aZ.sub]at h<;>first|(cases h;done)|skip<;>rw[aA]at h<;>obtain⟨_,h⟩:=h<;>obtain rfl:=ya h<;>rfl
theorem z6{k:IntKind}{b:Nat}{v:aL}{r:Bool×PV×List Nat}(h:bD.treeInts k b v=some r)(J:(∃k,v= .ints k [])\/(∃β e,v= .pvs β e [])\/(∃e,v= .avs e [])):
  ∃H,True/\r=(false,.ints H [],[b]):=by
 rcases J with ⟨H,rfl⟩|⟨β,e,rfl⟩|⟨e,rfl⟩
 ·simp only[bD.treeInts]at h;rw[aA]at h;obtain⟨_,h⟩:=h;exact⟨H,trivial,(ya h).symm⟩
 ·simp[bD.treeInts]at h
 ·simp only[bD.treeInts]at h;rw[aA]at h;obtain⟨_,h⟩:=h;simp[fM]at h;exact⟨k,trivial,h.symm⟩
theorem Ec{f:LK->AV->Option (Bool×PV×List Nat)}{t:TypeId}{e b:Nat}{v:aL}{r:Bool×PV×List Nat}(h:bD.treeSl P f t e b v=some r)(J:(∃k,v= .ints k [])\/(∃β e,v= .pvs β e [])\/(∃e,v= .avs e [])):
  ∃β,v.e=e/\r=(β,.sl e [],[b]):=by
 rcases J with ⟨k',rfl⟩|⟨β,K,rfl⟩|⟨K,rfl⟩
 ·simp[bD.treeSl]at h
 ·simp only[bD.treeSl]at h;rw[aA]at h;obtain⟨H,h⟩:=h;obtain rfl:=bN.1 H;exact⟨β,rfl,(ya h).symm⟩
 ·simp only[bD.treeSl]at h;rw[aA]at h;obtain⟨H,h⟩:=h;simp only[yc]at H;obtain rfl:=bN.1 H.1;rw[bind_some]at h;obtain⟨ls,_,h⟩:=h;have:aR e ([]:List AV).length=0:=by
   have:=iE (n:=0) (cO.1 H.2) 0;simpa using this
  rw[this]at h;simp[chunks,gO]at h;exact⟨false,rfl,h.symm⟩
theorem AK{G:Gh}{w:World}{mem:aK}(hM:aH G w mem): ∀{n:Nat} {l:LK} {v:AV} {r:Bool×PV×List Nat} {cv:Value},bD P mem n l v=some r->VR G w v cv->
  PR w ((G.frz (aW G w mem r.2.2)).prot r.1) r.2.1 cv/\cv.oneCell'=true/\r.2.1.cells= [r.2.1]
 |0,l,v,r,cv,h,hv=>by simp[bD]at h
 |n+1,l,v,r,cv,h,hv=>by
  have frzPR: ∀{ids:List Nat} {β:Bool} {p:PV} {u:Value},PR w (G.prot β) p u->PR w ((G.frz (aW G w mem ids)).prot β) p u:=λY=>Y.mono (λ_ _ h=> .inl h) (λ_ _ _=>rfl);have hints: ∀{k:IntKind} {b:Nat} {x:bK} {wv:aL} {q:Bool×PV×List Nat} {vs:List Value} {B o cap a:Nat},mem[b]?=some (some x)->x.row.isOwn=false->G.loc b x.gen=some ⟨some B,x.row.e,x.row.len,a⟩->bD.treeInts k b wv=some q->
    bL G w wv vs->(∀j u,vs[j]?=some u->cl w B (o+j)=some u)->wv.len≤cap->
    PR w ((G.frz (aW G w mem q.2.2)).prot q.1) q.2.1 (.slice (some ⟨B,o,none⟩) wv.len cap)/\q.2.1.cells= [q.2.1]:=by
   intro k b x wv q vs B o cap a H how hl N V M hcap;have hin: ∀o',aW G w mem [b] B o':=λo'=> .one (yh1.2 rfl) H how hl rfl;unfold bD.treeInts at N;split at N
   ·rename_i k' xs;rw[aA]at N;obtain⟨hk,N⟩:=N;obtain rfl:=ya N;obtain⟨hlen,_,hh⟩:=V;exact⟨.ints k' xs B o cap hcap (λi y O=>⟨M _ _ (hh i y O),.inr (hin _)⟩),rfl⟩
   ·rename_i e cs;rw[aA]at N;obtain⟨he,N⟩:=N;obtain rfl:=bN.1 he;obtain⟨xs,hxs,rfl⟩:=ye.1 N;obtain⟨hlen,_,hcnt,hh⟩:=V;have key: ∀{cs:List AV} {xs:List Int},fM k cs=some xs->xs.length=cs.length/\∀(i:Nat) (y:Int),xs[i]?=some y->cs[i]?=some (.lit (.int k y)):=by
     intro cs
     induction cs with
     |nil=>intro xs h;simp[fM]at h;subst h;exact⟨rfl,λi y O=>by simp at O⟩
     |cons c cs ih=>
      intro xs h;have hc: ∃k' z,c= .lit (.int k' z):=by
       cases c with
       |lit v=>cases v with
        |int k' z=>exact⟨k',z,rfl⟩
        |_=>simp[fM]at h
       |_=>simp[fM]at h
      obtain⟨k',z,rfl⟩:=hc;simp only[fM]at h;cases hk:iK k k' with
      |false=>rw[hk]at h;simp at h
      |true=>
       rw[hk]at h;rw[kS]at hk;subst hk;simp only[yg]at h;obtain⟨xs',h1,rfl⟩:=ye.1 h;obtain⟨i1,i2⟩:=ih h1;refine⟨by simp[i1],λi y O=>?_⟩;cases i with
       |zero=>simp at O;subst O;rfl
       |succ i=>simpa using i2 i y (by simpa using O)
    obtain⟨k1,k2⟩:=key hxs;have hle:aL.len (.avs 1 cs)=xs.length:=by rw[k1];rfl
    rw[hle];refine⟨.ints k xs B o cap (by rw[<-hle];exact hcap) (λi y O=>?_),rfl⟩;obtain⟨u,J,Y⟩:=hh i _ (k2 i y O);obtain rfl:=Y.lit_inv;exact⟨M _ _ J,.inr (hin _)⟩
   ·simp at N
  have hsl: ∀{t:TypeId} {e b:Nat} {x:bK} {wv:aL} {q:Bool×PV×List Nat} {vs:List Value} {B o cap a:Nat},mem[b]?=some (some x)->x.row.isOwn=false->G.loc b x.gen=some ⟨some B,x.row.e,x.row.len,a⟩->bD.treeSl P (bD P mem n) t e b wv=some q->
    1≤wv.e->bL G w wv vs->(∀j u,vs[j]?=some u->cl w B (o+j)=some u)->wv.len≤cap->
    PR w ((G.frz (aW G w mem q.2.2)).prot q.1) q.2.1 (.slice (some ⟨B,o,none⟩) wv.len cap)/\q.2.1.cells= [q.2.1]:=by
   intro t e b x wv q vs B o cap a H how hl N he1 V M hcap;have hin: ∀ids o',b∈ids->aW G w mem ids B o':=λids o' hb=> .one hb H how hl rfl;unfold bD.treeSl at N;split at N
   ·rename_i β e' xs;rw[aA]at N;obtain⟨he,N⟩:=N;obtain rfl:=bN.1 he;obtain rfl:=ya N;obtain⟨hlen,h1,hh1,hh2⟩:=V;refine⟨.sl e xs B o cap (λi c=>vs.getD (i*e+c) undef) he1 hcap hh1 (λi x c y H O=>?_) (λi x c y H O=>?_) (λi x c y H O=>?_),rfl⟩
    ·obtain⟨u,J,Y⟩:=hh2 i x c y H O;rw[ym,J];exact⟨by rw[ye2];exact M _ _ J,.inr (hin _ _ (yh1.2 rfl))⟩
    ·obtain⟨u,J,Y⟩:=hh2 i x c y H O;rw[ym,J];exact h1 u (yk J)
    ·obtain⟨u,J,Y⟩:=hh2 i x c y H O;rw[ym,J];exact frzPR Y
   ·rename_i e' cs;rw[aA]at N;obtain⟨he,N⟩:=N;simp only[yc]at he;obtain rfl:=bN.1 he.1;rw[bind_some]at N;obtain⟨ls,hls,N⟩:=N;obtain⟨r0,hr0,rfl⟩:=ye.1 N;obtain⟨hlen,h1,hcnt,hh⟩:=V;obtain⟨fl,ff⟩:=r9 hr0;rw[gH]at fl;have hcs:cs.length=aR e cs.length*e:=by rw[yx2];exact hcnt
    -- element i
    have hel: ∀i p,r0.2.1[i]?=some p->i<aR e cs.length/\p.cells.length=e/\∀c y,p.cells[c]?=some y->∃u,vs[i*e+c]?=some u/\PR w ((G.frz (aW G w mem (b::r0.2.2))).prot r0.1) y u:=by
     intro i p Y;have hi:i<aR e cs.length:=by rw[<-fl];exact(yd.1 Y).1
     obtain⟨q1,hq1,hp1,hb1,hlab1⟩:=ff i _ (AY hi);rw[Y]at hp1;obtain rfl:=ya hp1;rw[bind_some]at hq1;obtain⟨q2,hq2,hq1⟩:=hq1;obtain⟨p',hp',rfl⟩:=ye.1 hq1;obtain⟨zl,zl2,zz⟩:=yU hq2;have hchl:((cs.drop (i*e)).take e).length=e:=by
      have h2:i*e+e≤cs.length:=by
       rw[hcs]
       calc i*e+e=(i+1)*e:=by rw[yt1];simp
        _≤_:=ym2 _ hi
      simp;omega
     have W:p'.cells=q2.2.1:=by
      unfold wQ at hp';split at hp'
      ·obtain rfl:=ya hp';rfl
      ·split at hp'
       ·rename_i c heq;obtain rfl:=ya hp'
        -- a single cell: what bD answers is no struct
        have hlen1:((cs.drop (i*e)).take e).length=1:=by rw[<-zl,heq];rfl
        obtain⟨lk,q3,_,h3,h4,_⟩:=zz 0 (((cs.drop (i*e)).take e)[0]'(by omega)) (yf _);have hcell0:cs[i*e]?=some (((cs.drop (i*e)).take e)[0]'(by omega)):=by
         have:=yf (l:=(cs.drop (i*e)).take e) (i:=0) (by omega);rw[yp1 (by omega),ye1]at this;simp
        obtain⟨u,J,hvr⟩:=hh _ _ hcell0;have hone:=(AK hM h3 hvr).2.2;rw[heq]at h4;simp only[ye3,Option.some.injEq]at h4;rw[heq,h4];exact hone
       ·simp at hp'
      ·simp at hp'
     refine⟨hi,by rw[W,zl,hchl],λc y O=>?_⟩;rw[W]at O;have hc:c<e:=by have:=(yd.1 O).1;rw[zl,hchl]at this;exact this
     obtain⟨lk,q3,_,h3,h4,h5,h6⟩:=zz c (((cs.drop (i*e)).take e)[c]'(by omega)) (yf _);have hcell:cs[i*e+c]?=some (((cs.drop (i*e)).take e)[c]'(by omega)):=by
      have:=yf (l:=(cs.drop (i*e)).take e) (i:=c) (by omega);rw[yp1 (by omega),ye1]at this;simp
     obtain⟨u,J,hvr⟩:=hh _ _ hcell;have hpr:=(AK hM h3 hvr).1;rw[O]at h4;obtain rfl:=ya h4;refine⟨u,J,hpr.mono (λB' o' hh=>?_) (λ_ _ _=>rfl)⟩;rcases hh with hh|hh
     ·left;cases hb:r0.1 with
      |false=>rw[h6 (hlab1 hb)]at hh;exact hh
      |true=>
       cases hq3:q3.1 with
       |false=>rw[hq3]at hh;exact hM.lab _ _ hh
       |true=>rw[hq3]at hh;exact hh
     ·exact .inr (hh.mono λb' hb'=>yj _ (hb1 b' (h5 b' hb')))
    have hwl:aL.len (.avs e cs)=r0.2.1.length:=by rw[fl];rfl
    rw[hwl];refine⟨.sl e r0.2.1 B o cap (λi c=>vs.getD (i*e+c) undef) he1 (by rw[<-hwl];exact hcap) (λx H=>?_) (λi x c y H O=>?_) (λi x c y H O=>?_) (λi x c y H O=>?_),rfl⟩
    ·obtain⟨i,hi,rfl⟩:=yx1 H;exact(hel i _ (yf hi)).2.1
    ·obtain⟨u,J,Y⟩:=(hel i x H).2.2 c y O;rw[ym,J];exact⟨by rw[ye2];exact M _ _ J,.inr (hin _ _ (yn ..))⟩
    ·obtain⟨u,J,Y⟩:=(hel i x H).2.2 c y O;rw[ym,J];exact h1 u (yk J)
    ·obtain⟨u,J,Y⟩:=(hel i x H).2.2 c y O;rw[ym,J];exact Y
   ·simp at N
  unfold bD at h;split at h
  ·rename_i k k' x;rw[aA]at h;obtain⟨hk,h⟩:=h;obtain rfl:=ya h;obtain rfl:=hv.lit_inv;exact⟨.lit _ rfl,rfl,rfl⟩
  ·obtain rfl:=ya h;obtain rfl:=hv.lit_inv;exact⟨.lit _ rfl,rfl,rfl⟩
  ·obtain rfl:=ya h;obtain rfl:=hv.lit_inv;exact⟨.lit _ rfl,rfl,rfl⟩
  ·rename_i k β k' xs;rw[aA]at h;obtain⟨hk,h⟩:=h;obtain rfl:=ya h;cases hv with
   |imm _ _ _ Y hs=>exact⟨frzPR Y,by cases Y<;>rfl,rfl⟩
  ·rename_i k;obtain rfl:=ya h;obtain rfl:=hv.lit_inv;exact⟨.intsNil k _,rfl,rfl⟩
  ·rename_i k b g;rw[bind_some]at h;obtain⟨x,H,h⟩:=h;have K:=(box?_some H)
   have he:=(hM.box b x K.1).e;rcases hM.at_msw H hv with ⟨B,a0,cap,rfl,hn,hl,ha0,hf,_,_,_,U,_⟩|⟨rfl,hz,hnc,_,hl⟩
   ·obtain⟨vs,hvs,M⟩:=U.toList he (box?_own H) ha0;have:=hints (o:=a0) (cap:=cap) K.1 (box?_own H) (by rw[K.2];exact hl) h hvs (λj u J=>by rw[M _ (yd.1 J).1];exact J) (by rw[dX];exact hn);rw[dX]at this;exact⟨this.1,rfl,this.2⟩
   ·unfold bD.treeInts at h;obtain⟨gen,frz,row⟩:=x;cases row with
    |ints k' xs=>
     simp only[aZ.len]at hz;have:=yu hz;subst this;simp only[aZ.all]at h;rw[aA]at h;obtain⟨hk,h⟩:=h;obtain rfl:=ya h;exact⟨.intsNil _ _,rfl,rfl⟩
    |pvs β e xs=>simp[aZ.all]at h
    |cells e cs=>simp[aZ.isCells]at hnc
    |own e xs hs=>exact absurd (box?_own H) (by simp[aZ.isOwn])
  ·rename_i k b g o m;rw[bind_some]at h;obtain⟨x,H,h⟩:=h;rw[bind_some]at h;obtain⟨wv,Z,h⟩:=h;have K:=(box?_some H)
   have he:=(hM.box b x K.1).e;rcases hM.at_ms H hv with ⟨B,a0,cap,rfl,hn,hon,hl,ha0,hf,_,_,_,U,_⟩|⟨rfl,rfl,rfl,hz,_,hl⟩|⟨B,oo,rfl,ho,rfl,hon,_,hl⟩
   ·obtain⟨vs,hvs,M⟩:=U.toList he (box?_own H) ha0;obtain⟨hv',hve,hvl,_⟩:=zB he Z hvs
    have:=hints (o:=a0+o*x.row.e) (cap:=cap) K.1 (box?_own H) (by rw[K.2];exact hl) h hv' (λj u J=>by
     have hj:j<m*x.row.e:=by have:=(yd.1 J).1;rw[hv'.1,hve,hvl]at this;exact this
     rw[yp1 hj,ye1]at J
     rw[ye2,M _ (yd.1 J).1];exact J) (by rw[hvl];exact hn)
    rw[hvl]at this;exact⟨this.1,rfl,this.2⟩
   ·obtain⟨k',hk',hr⟩:=z6 h (sub_zero Z);rw[hr];exact⟨PR.intsZ k' none (by simp),rfl,rfl⟩
   ·obtain⟨k',hk',hr⟩:=z6 h (sub_zero Z);rw[hr];exact⟨PR.intsZ k' (some ⟨B,oo,none⟩) (by simp),rfl,rfl⟩
  ·rename_i t e β e' xs;rw[aA]at h;obtain⟨hk,h⟩:=h;obtain rfl:=ya h;cases hv with
   |imm _ _ _ Y hs=>exact⟨frzPR Y,by cases Y<;>rfl,rfl⟩
  ·rename_i t e;obtain rfl:=ya h;obtain rfl:=hv.lit_inv;exact⟨.slNil e _,rfl,rfl⟩
  ·rename_i t e b g;rw[bind_some]at h;obtain⟨x,H,h⟩:=h;have K:=(box?_some H)
   have he:=(hM.box b x K.1).e;rcases hM.at_msw H hv with ⟨B,a0,cap,rfl,hn,hl,ha0,hf,_,_,_,U,_⟩|⟨rfl,hz,hnc,_,hl⟩
   ·obtain⟨vs,hvs,M⟩:=U.toList he (box?_own H) ha0;have:=hsl (o:=a0) (cap:=cap) K.1 (box?_own H) (by rw[K.2];exact hl) h (by rw[rJ];exact he) hvs (λj u J=>by rw[M _ (yd.1 J).1];exact J) (by rw[dX];exact hn);rw[dX]at this;exact⟨this.1,rfl,this.2⟩
   ·unfold bD.treeSl at h;obtain⟨gen,frz,row⟩:=x;cases row with
    |ints k' xs=>simp[aZ.all]at h
    |pvs β e' xs=>
     simp only[aZ.len]at hz;have:=yu hz;subst this;simp only[aZ.all]at h;rw[aA]at h;obtain⟨hk,h⟩:=h;obtain rfl:=ya h;exact⟨.slNil _ _,rfl,rfl⟩
    |cells e cs=>simp[aZ.isCells]at hnc
    |own e xs hs=>exact absurd (box?_own H) (by simp[aZ.isOwn])
  ·rename_i t e b g o m;rw[bind_some]at h;obtain⟨x,H,h⟩:=h;rw[bind_some]at h;obtain⟨wv,Z,h⟩:=h;have K:=(box?_some H)
   have he:=(hM.box b x K.1).e;rcases hM.at_ms H hv with ⟨B,a0,cap,rfl,hn,hon,hl,ha0,hf,_,_,_,U,_⟩|⟨rfl,rfl,rfl,hz,_,hl⟩|⟨B,oo,rfl,ho,rfl,hon,_,hl⟩
   ·obtain⟨vs,hvs,M⟩:=U.toList he (box?_own H) ha0;obtain⟨hv',hve,hvl,_⟩:=zB he Z hvs
    have:=hsl (o:=a0+o*x.row.e) (cap:=cap) K.1 (box?_own H) (by rw[K.2];exact hl) h (by rw[hve];exact he) hv' (λj u J=>by
     have hj:j<m*x.row.e:=by have:=(yd.1 J).1;rw[hv'.1,hve,hvl]at this;exact this
     rw[yp1 hj,ye1]at J
     rw[ye2,M _ (yd.1 J).1];exact J) (by rw[hvl];exact hn)
    rw[hvl]at this;exact⟨this.1,rfl,this.2⟩
   ·have he':=Rb Z;obtain⟨e',hk',hr⟩:=Ec h (sub_zero Z);rw[hr];exact⟨PR.slZ (by omega) none (by simp),rfl,rfl⟩
   ·have he':=Rb Z;obtain⟨e',hk',hr⟩:=Ec h (sub_zero Z);rw[hr];exact⟨PR.slZ (by omega) (some ⟨B,oo,none⟩) (by simp),rfl,rfl⟩
  ·simp at h
end
end Go.Ab
end
section
namespace Go.Ab
variable [cF]
section
variable {P:Program}
theorem dO{mem:aK}{v:AV}{rd:List Nat}{b:Nat}{x:bK}:({v,rd,wr:= [(b,x)]}:dI).apply mem=mem.set b (some x):=by simp[dI.apply,aN]
theorem p7(mem:aK): ∀(a b:List (Nat×bK)),aN mem (a++b)=aN (aN mem a) b
 | [],b=>rfl
 |(i,x)::a,b=>by simp only[yk3,aN];exact p7 (mem.set i (some x)) a b
theorem PA{mem:aK}{v:AV}{rd ids:List Nat}{b:Nat}{x:bK}:({v,rd,wr:=cA mem ids++ [(b,x)]}:dI).apply mem=(aN mem (cA mem ids)).set b (some x):=by
 simp[dI.apply,p7,aN]
theorem Hu{mem:aK}{v:AV}{q:Nat×Nat×List PV}(h:pM mem v=some q): ∃g x xs,((v= .msw q.1 g/\q.2.2=xs)\/∃n,v= .ms q.1 g 0 n/\n≤xs.length/\q.2.2=xs.take n)/\mem[q.1]?=some (some x)/\x.gen=g/\x.row= .own q.2.1 xs []/\x.frz=false:=by
 unfold pM at h;split at h
 ·rename_i b g;rw[bind_some]at h;obtain⟨x,H,h⟩:=h;obtain⟨J,K,_⟩:=boxO?_some H;split at h
  ·rename_i e xs hr;rw[aA]at h;obtain⟨hf,h⟩:=h;obtain rfl:=ya h;exact⟨g,x,xs,.inl ⟨rfl,rfl⟩,J,K,hr,by simpa using hf⟩
  ·cases h
 ·rename_i b g n;rw[bind_some]at h;obtain⟨x,H,h⟩:=h;obtain⟨J,K,_⟩:=boxO?_some H;split at h
  ·rename_i e xs hr;rw[aA]at h;obtain⟨hf,h⟩:=h;simp only[yc,yw]at hf;obtain rfl:=ya h;exact⟨g,x,xs,.inr ⟨n,rfl,cO.1 hf.2,rfl⟩,J,K,hr,hf.1⟩
  ·cases h
 ·cases h
theorem RO{G:Gh}{w:World}{mem:aK}(hM:aH G w mem){b g e:Nat}{x:bK}{xs:List PV}{cv:Value}(S:Nat->Nat->Prop)(hm:mem[b]?=some (some x))(hg:x.gen=g)(H:x.row= .own e xs [])(hv:VR G w (.msw b g) cv)
  (hS: ∀B B' o,eT G b x B->(B'=B\/∃i c,cN w B x.row i c B')->S B' o):PR w ((G.frz S).prot false) (.sl e xs) cv/\cv.oneCell'=true:=by
 subst hg;have Z:=(hM.box b x hm).e;cases hv with
 |msw _ _ cap L B Y hb hn hf=>
  have hB:eT G b x B:=⟨L,Y,hb⟩
  obtain⟨a0,K,V,M,N,h3,h4,h5⟩:=hM.blk hm hB;rw[Y]at K;obtain rfl:=ya K;obtain rfl:=V (by rw[H];rfl);have U:=h4.shut S (by rw[H];rfl) (by rw[H];rfl) (λi c B' hi o=>hS B B' o hB (.inr ⟨i,c,hi⟩));rw[H]at U hn Z⊢
  obtain⟨W,J⟩:=U;refine⟨.sl e xs B 0 cap (λi c=>(cl w B (i*e+c)).getD undef) Z hn W (λi x' c y M N=>?_) (λi x' c y M N=>?_) (λi x' c y M N=>?_),rfl⟩
  ·obtain⟨u,O,_,_⟩:=J i x' c y M N;rw[yc1];exact⟨by rw[O];rfl,.inr (hS B B _ hB (.inl rfl))⟩
  ·obtain⟨u,O,M,_⟩:=J i x' c y M N;rw[O];exact M
  ·obtain⟨u,O,_,M⟩:=J i x' c y M N;rw[O];exact M
 |mswNil _ _ L Y hb hn=>
  obtain⟨o,a0,K,V,hmm⟩:=(hM.box b x hm).loc;rw[Y]at K;obtain rfl:=ya K;rw[H]at hn;obtain rfl:=yu hn;exact⟨.slNil e _,rfl⟩
theorem Qb{G:Gh}{w:World}{mem:aK}(hM:aH G w mem){b g e n:Nat}{x:bK}{xs:List PV}{cv:Value}(S:Nat->Nat->Prop)(hm:mem[b]?=some (some x))(hg:x.gen=g)(J:x.row= .own e xs [])(hn:n≤xs.length)(hv:VR G w (.ms b g 0 n) cv)
  (hS: ∀B B' o,eT G b x B->(B'=B\/∃i c,cN w B x.row i c B')->S B' o):PR w ((G.frz S).prot false) (.sl e (xs.take n)) cv/\cv.oneCell'=true:=by
 subst hg;have he:=(hM.box b x hm).e;cases hv with
 |ms _ _ _ _ cap L B hl hb hn' hon hf=>
  have hB:eT G b x B:=⟨L,hl,hb⟩
  obtain⟨a0,U,ha0,M,N,h3,h4,h5⟩:=hM.blk hm hB;rw[hl]at U;obtain rfl:=ya U;obtain rfl:=ha0 (by rw[J];rfl);have V:=h4.shut S (by rw[J];rfl) (by rw[J];rfl) (λi c B' hi o=>hS B B' o hB (.inr ⟨i,c,hi⟩));rw[J]at V he⊢
  obtain⟨W,H⟩:=V;have K: ∀{i:Nat} {x':PV},(xs.take n)[i]?=some x'->xs[i]?=some x':=by
   intro i x' h;rw[ys1]at h;split at h
   ·exact h
   ·cases h
  have Y:(xs.take n).length=n:=by rw[yn2];omega
  have hz:0*x.row.e=0:=yr3 _;have Z:PR w ((G.frz S).prot false) (.sl e (xs.take n)) (.slice (some ⟨B,0,none⟩) (xs.take n).length cap):=by
   refine .sl e (xs.take n) B 0 cap (λi c=>(cl w B (i*e+c)).getD undef) he (by rw[Y];exact hn') (λy hy=>W y (yf3 hy)) (λi x' c y M N=>?_) (λi x' c y M N=>?_) (λi x' c y M N=>?_)
   ·obtain⟨u,O,_,_⟩:=H i x' c y (K M) N;rw[yc1];exact⟨by rw[O];rfl,.inr (hS B B _ hB (.inl rfl))⟩
   ·obtain⟨u,O,M,_⟩:=H i x' c y (K M) N;rw[O];exact M
   ·obtain⟨u,O,_,M⟩:=H i x' c y (K M) N;rw[O];exact M
  rw[Y]at Z;rw[yr3,yc1];exact⟨Z,rfl⟩
 |msNil _ _ L hl hb=>exact⟨.slNil e _,rfl⟩
 |msZ _ _ _ B oo L hl hb ho hon=>omega
theorem E0{G:Gh}{w:World}{mem:aK}(hM:aH G w mem){l:LK}{v:AV}{r:Bool×PV×List Nat}{cv:Value}(h:kA P mem l v=some r)(M:VR G w v cv):
  PR w ((G.frz (aW G w mem r.2.2)).prot r.1) r.2.1 cv/\cv.oneCell'=true/\r.2.1.cells= [r.2.1]:=by
 unfold kA at h;split at h
 ·rename_i q W;split at h
  ·rw[aA]at h;obtain⟨V,h⟩:=h;obtain rfl:=bN.1 V;obtain rfl:=ya h;obtain⟨g,x,xs,N,hm,U,H,hf⟩:=Hu W;rcases N with ⟨rfl,J⟩|⟨n,rfl,hn,J⟩
   ·obtain⟨O,K⟩:=RO hM (aW G w mem [q.1]) hm U H M (λB B' o hB h=>⟨q.1,yh1.2 rfl,x,B,hm,by rw[H];rfl,hB,h⟩);simp only[J];exact⟨O,K,rfl⟩
   ·obtain⟨O,K⟩:=Qb hM (aW G w mem [q.1]) hm U H hn M (λB B' o hB h=>⟨q.1,yh1.2 rfl,x,B,hm,by rw[H];rfl,hB,h⟩);simp only[J];exact⟨O,K,rfl⟩
  ·cases h
 ·exact AK hM h M
theorem rM{G:Gh}{w:World}{mem:aK}(hM:aH G w mem){t:TypeId}{v:AV}{r:Bool×PV×List Nat}{cv:Value}(h:vL P mem t v=some r)(hv:VR G w v cv):
  r.2.1.cells.length=v.cells.length/\∀(j:Nat) (y:PV),r.2.1.cells[j]?=some y->∃u,cv.cells.toList[j]?=some u/\PR w ((G.frz (aW G w mem r.2.2)).prot r.1) y u/\u.oneCell'=true:=by
 unfold vL at h;rw[bind_some]at h;obtain⟨ls,hls,h⟩:=h;rw[bind_some]at h;obtain⟨q,hq,h⟩:=h;obtain⟨p,K,rfl⟩:=ye.1 h;obtain⟨zl,zl2,zz⟩:=yU hq;have hc:=hv.cells;have V: ∀(j:Nat) (y:PV),q.2.1[j]?=some y->∃u,cv.cells.toList[j]?=some u/\PR w ((G.frz (aW G w mem q.2.2)).prot q.1) y u/\u.oneCell'=true/\y.cells= [y]:=by
  intro j y W;have Y:j<v.cells.length:=by rw[<-zl];exact(yd.1 W).1
  obtain⟨lk,q3,_,Z,h4,h5,h6⟩:=zz j (v.cells[j]) (yf Y);rw[W]at h4;obtain rfl:=ya h4;have O:j<cv.cells.toList.length:=by rw[<-hc.1];exact Y
  have N:=hc.2 j _ (yf Y);rw[ym,yf O]at N;obtain⟨t1,t2,t3⟩:=E0 hM Z N;refine⟨_,yf O,t1.mono (λB' o' H=>?_) (λ_ _ _=>rfl),t2,t3⟩;rcases H with H|H
  ·left;cases hb:q.1 with
   |false=>rw[h6 hb]at H;exact H
   |true=>
    cases U:q3.1 with
    |false=>rw[U]at H;exact hM.lab _ _ H
    |true=>rw[U]at H;exact H
  ·exact .inr (H.mono h5)
 have J:p.cells=q.2.1:=by
  unfold wQ at K;split at K
  ·obtain rfl:=ya K;rfl
  ·split at K
   ·rename_i c M;obtain rfl:=ya K;obtain⟨u,_,_,_,h⟩:=V 0 c (by rw[M];rfl);rw[M];exact h
   ·simp at K
  ·simp at K
 simp only;rw[J];exact⟨zl,λj y W=>by obtain⟨u,h1,h2,Z,_⟩:=V j y W;exact⟨u,h1,h2,Z⟩⟩
theorem bL.ofLRs{G:Gh}{w:World}{e:Nat}{cs:List AV}{vs:List Value}(h:iW G w cs vs)(K:jX cs=true)(hc:cs.length=aR e cs.length*e):bL G w (.avs e cs) vs:=by
 refine⟨by rw[<-h.1];exact hc,h.ones K,by rw[yx2];exact hc,λj y H=>?_⟩;have J:j<vs.length:=by rw[<-h.1];exact(yd.1 H).1
 have:=h.2 j y H;rw[ym,yf J]at this;exact⟨_,yf J,this⟩
theorem FZ{G:Gh}{w:World}{mem:aK}{b:Nat}{row:aZ}{vs:List Value}{rest:Array Value}{t:TypeId}(hM:aH G w mem)(O:mem[b]?=some none)(Y:1≤row.e)(H:row.isOwn=false)
  (Z:bL G w row.all vs): ∃K,K=G.put b 0 ⟨some w.heap.size,row.e,row.len,0⟩/\c5 G K/\Ev G w (w.alloc (.cells (vs.toArray++rest) t))/\
   aH K (w.alloc (.cells (vs.toArray++rest) t)) (mem.set b (some {gen:=0,frz:=false,row}))/\K.loc b 0=some ⟨some w.heap.size,row.e,row.len,0⟩:=by
 have M:G.loc b 0=none:=hM.unset b 0 (λx U=>by rw[O]at U;cases U);have V:c5 G (G.put b 0 ⟨some w.heap.size,row.e,row.len,0⟩):=c5.put (.inl M);have J:=Ev.alloc G w (.cells (vs.toArray++rest) t) hM.away;refine⟨_,rfl,V,J,hM.make O Y (iD.ofList H (λ_=>rfl) (Z.mono V J) (λj u N=>?_)) (λi c B' W=>by rw[W.own]at H;cases H),Gh.put_self ..⟩;rw[yc1,kP];have hj:=(yd.1 N).1;rw[yi3 (by simpa using hj)];simpa using N
theorem F1(t:TypeId)(c:Array Value)(w:World):(newRow t c).run P w= .ok ⟨w.heap.size,0,none⟩ (w.alloc (.cells c t)):=by
 simp[newRow]
theorem Pv{G:Gh}{w:World}{mem:aK}{b n:Nat}{v:AV}{cv:Value}{t:TypeId}(hM:aH G w mem)(N:mem[b]?=some none)(U:VR G w v cv)(hn:v.cells.length=n)(h1:1≤n)(M:jX v.cells=true):
  ∃K,c5 G K/\Ev G w (w.alloc (.cells cv.cells t))/\aH K (w.alloc (.cells cv.cells t)) (mem.set b (some {gen:=0,frz:=false,row:= .cells 1 v.cells}))/\
   VR K (w.alloc (.cells cv.cells t)) (.ptr b 0 0 0) (.pointer (some ⟨w.heap.size,0,none⟩)):=by
 have hc:v.cells.length=aR 1 v.cells.length*1:=by simp[aR,Nat.beq]
 obtain⟨K,rfl,O,H,J,V⟩:=FZ (row:= .cells 1 v.cells) (vs:=cv.cells.toList) (rest:= #[]) (t:=t) hM N (ya1 1) rfl (bL.ofLRs U.cells M hc);simp only[yv2,Array.append_empty]at H J;refine⟨_,O,H,J,?_⟩;have:=VR.ptr (G:=G.put b 0 ⟨some w.heap.size,(aZ.cells 1 v.cells).e,(aZ.cells 1 v.cells).len,0⟩) (w:=w.alloc (.cells cv.cells t)) b 0 0 0 _ w.heap.size V rfl;simpa using this
theorem NM{G:Gh}{w:World}{mem:aK}{o:Oper}{a:Act}{t:TypeId}{rs:Nat}{z:AV}(hM:aH G w mem)(U:o.op= .alloc t)(J:mem[rs]?=some none)(V:zero? P t=some z)
  (h1:1≤z.cells.length) (H:jX z.cells=true):
  lC P G w mem o a {v:= .ptr rs 0 0 0,wr:= [(rs,{gen:=0,frz:=false,row:= .cells 1 z.cells})]}:=by
 obtain⟨zv,M,N,_⟩:=LV V G w;obtain⟨Z,W,K,O,Y⟩:=Pv (t:=t) hM J N rfl h1 H;refine⟨Z,_,_,_,?_,.inl rfl,Y,W,K,by rw[dO];exact O⟩;simp[execOp,U,Instr.alloc,M,newVar,F1]
theorem Sj{G:Gh}{w:World}{mem:aK}{o:Oper}{a:Act}{t:TypeId}{x:Operand}{rs n:Nat}{v:AV}(hM:aH G w mem)(O:o.op= .box t x)(J:mem[rs]?=some none)(V:VR G w v (a.eval x))
  (hn:v.cells.length=n) (Y:1≤n) (H:jX v.cells=true):
  lC P G w mem o a {v:= .ptr rs 0 0 0,wr:= [(rs,{gen:=0,frz:=false,row:= .cells 1 v.cells})]}:=by
 obtain⟨W,U,K,M,N⟩:=Pv (t:=t) hM J V hn Y H;refine⟨W,_,_,_,?_,.inl rfl,N,U,K,by rw[dO];exact M⟩;simp[execOp,O,Instr.box,newVar,F1]
theorem BE{t:TypeId}{n B o:Nat}{cv:Value}{w:World}(hn:jR P t=some n)(H:cv.cells.size=n)(hc: ∀j,j<n->(cl w B (o+j)).isSome=true)(hf: ∀j,j<n->w.frozen? ⟨B,o+j,none⟩=false)
  (K: ∀u∈cv.cells.toList,u.oneCell'=true):(storeVar t ⟨B,o,none⟩ cv).run P w= .ok () (w.setCells B o cv.cells.toList):=by
 have J:=run_storeCells_cells (P:=P) B o cv.cells.toList 0 w (by simpa[H]using hc) (by simpa[H]using hf) K;rw[yw1]at J;simp only[storeVar,Sem.run_bind,eR hn,Result.andThen_ok,Sem.run_ite,H,ne_eq,not_true_eq_false,if_false,Sem.run_pure,J]
theorem lX: ∀{xs vs:List Value} {o j:Nat},o+xs.length≤vs.length->(bF vs o xs)[j]?=if o≤j/\j<o+xs.length then xs[j-o]? else vs[j]?
 | [],vs,o,j,h=>by simp[bF];omega
 |x::xs,vs,o,j,h=>by
  simp only[bF];simp only[yz]at h;rw[lX (xs:=xs) (by simp;omega)];by_cases H:o+1≤j/\j<o+1+xs.length
  ·rw[if_pos H,if_pos (by simp;omega),show j-o=(j-(o+1))+1 by omega,ym1]
  ·rw[if_neg H];by_cases J:j=o
   ·subst J;rw[if_pos (by simp),yt (by omega)];simp
   ·rw[yo (by omega),if_neg (by simp;omega)]
theorem Iq.sub{G:Gh}{w M:World}{mem:aK}{b:Nat}{x x':bK}{L:Ff}{B:Nat}(hM:aH G w mem)(J:mem[b]?=some (some x))(hB:eT G b x B)(hL:L.blk=some B)
  (W: ∀B',j8 G w mem b B'->M.heap[B']?=w.heap[B']?) (K: ∀i c B',cN M B x'.row i c B'->cN w B x.row i c B'):Iq G w M mem b x' L:=by
 have Uz: ∀{C},L.blk=some C->C=B:=λh=>by rw[hL]at h;exact(ya h).symm
 refine⟨W,λC hC hO=>?_,λC hC i c B' H=>?_,λC hC i c U O B' H N=>?_⟩
 ·obtain rfl:=Uz hC;exact hM.other_ne J hB hO rfl
 ·obtain rfl:=Uz hC;have H:=K i c B' H;refine⟨hM.other_inn J hB H,?_⟩
  rintro rfl
  exact hM.inA b b x x _ i c _ J hB H J hB
 ·obtain rfl:=Uz hC;obtain⟨_,h,V⟩:=hM.inB b b x x _ _ i c U O B' J hB (K i c B' H) J hB (K U O B' N);exact⟨h,V⟩
theorem Ja{G:Gh}{w:World}{mem:aK}{b:Nat}{x:bK}{B a:Nat}{row':aZ}{o:Nat}{xs:List Value}(hM:aH G w mem)(M:mem[b]?=some (some x))(U:G.loc b x.gen=some ⟨some B,x.row.e,x.row.len,a⟩)
  (O:x.frz=false) (K: ∀j,j<xs.length->(cl w B (o+j)).isSome=true) (Z:row'.e=x.row.e) (N:row'.len=x.row.len) (W:row'.isInts=false->a=0)
  (hr:Ev G w (w.setCells B o xs)->iD G (w.setCells B o xs) B a row') (V: ∀i c B',cN (w.setCells B o xs) B row' i c B'->cN w B x.row i c B'):
  Ev G w (w.setCells B o xs)/\aH G (w.setCells B o xs) (mem.set b (some {x with row:=row'})):=by
 have hb:=hM.box b x M;have hB:eT G b x B:=⟨_,U,rfl⟩
 obtain⟨_,hl',_,h1,h2,h3,h4,h5⟩:=hM.blk M hB;have J:=Ev.setCells (G:=G) (vs:=xs) h1 K (h5 O);have Y:b<mem.length:=(yd.1 M).1;refine⟨J,?_⟩;have H:G.put b x.gen ⟨some B,x.row.e,x.row.len,a⟩=G:=by
  unfold Gh.put;congr 1;funext b' g';split
  ·rename_i hh;obtain⟨rfl,rfl⟩:=hh;exact U.symm
  ·rfl
 have:=hM.upd (x':={x with row:=row'}) (L:=⟨some B,x.row.e,x.row.len,a⟩) J Y (.inr U) (.sub hM M hB rfl (λB' hO=>dK (w:=w) (hM.other_ne M hB hO) xs o w) V) (λg hg=>hM.gens b x g M hg) ?_
 ·rw[H]at this;exact this
 ·rw[H];exact⟨by show 1≤row'.e;rw[Z];exact hb.e,some B,a,by show G.loc b x.gen=some ⟨some B,row'.e,row'.len,a⟩;rw[Z,N];exact U,W,h1,by rw[l9];exact h2,h3.setCells,hr J,h5⟩
theorem Dj{G:Gh}{w:World}{mem:aK}{b:Nat}{x:bK}{B a:Nat}{row':aZ}{vs:List Value}{o:Nat}{xs:List Value}(hM:aH G w mem)(hx:mem[b]?=some (some x))(hl:G.loc b x.gen=some ⟨some B,x.row.e,x.row.len,a⟩)
  (U:x.frz=false) (N: ∀j,j<vs.length->cl w B (a+j)=vs[j]?) (Z:o+xs.length≤vs.length) (he:row'.e=x.row.e) (M:row'.len=x.row.len) (O:row'.isInts=false->a=0) (H:row'.isOwn=false)
  (hv:bL G w row'.all (bF vs o xs)):
  Ev G w (w.setCells B (a+o) xs)/\aH G (w.setCells B (a+o) xs) (mem.set b (some {x with row:=row'})):=by
 have J: ∀j,j<xs.length->(cl w B (a+o+j)).isSome=true:=by
  intro j hj;rw[ye2,N _ (by omega),yf (by omega)];rfl
 refine Ja hM hx hl U J he M O (λV=>iD.ofList H O (hv.mono (c5.refl G) V) (λj u K=>?_)) (λi c B' Y=>by rw[Y.own]at H;cases H);rw[lX Z]at K;by_cases W:o≤j/\j<o+xs.length
 ·rw[if_pos W]at K;obtain⟨k,rfl⟩: ∃k,j=o+k:=⟨j-o,by omega⟩
  rw[<-ye2,kR J (by omega)];rw[yx3,yf (by omega)]at K;exact K
 ·rw[if_neg W]at K;rw[jL (by omega),N _ (yd.1 K).1];exact K
end
end Go.Ab
end
section
namespace Go.Ab
variable [cF]
theorem rD{b:Nat}: ∀{l:List Nat},eC b l=true↔b∈l
 | []=>by simp[eC]
 |m::r=>by simp only[eC,yc2,bN,yj1,rD (l:=r)];constructor<;>rintro(h|h)<;>first|exact .inl h.symm|exact .inr h
theorem GZ: ∀{xs vs:List PV} {o j:Nat},o+xs.length≤vs.length->(p5 vs o xs)[j]?=if o≤j/\j<o+xs.length then xs[j-o]? else vs[j]?
 | [],vs,o,j,h=>by simp[p5];omega
 |x::xs,vs,o,j,h=>by
  simp only[p5];simp only[yz]at h;rw[GZ (xs:=xs) (by simp;omega)];by_cases H:o+1≤j/\j<o+1+xs.length
  ·rw[if_pos H,if_pos (by simp;omega),show j-o=(j-(o+1))+1 by omega,ym1]
  ·rw[if_neg H];by_cases J:j=o
   ·subst J;rw[if_pos (by simp),yt (by omega)];simp
   ·rw[yo (by omega),if_neg (by simp;omega)]
section
variable {P:Program}
theorem J5{G:Gh}{w:World}{mem:aK}{t:TypeId}{a x:AV}{out:dI}{ca cx:Value}(hM:aH G w mem)(h:jV P t mem a x=some out)(ha:VR G w a ca)(hx:VR G w x cx):
  out.v= .lit undef/\∃G' w',(Instr.storeAt t ca cx).run P w= .ok () w'/\c5 G G'/\Ev G w w'/\aH G' w' (out.apply mem):=by
 unfold jV at h;split at h
 ·rename_i b g i c;rw[bind_some]at h;obtain⟨bx,hbx,h⟩:=h;rw[bind_some]at h;obtain⟨n,hn,h⟩:=h;rw[aA]at h;obtain⟨hg,h⟩:=h;simp only[yc,yw]at hg;obtain⟨W,K⟩:=hg;have K:=bN.1 K;obtain⟨hm,hgen⟩:=box?_some hbx;obtain⟨B,a0,rfl,hl,ha0,hmine,hB,hfz,hrow,hpr⟩:=hM.at_ptr hbx ha;have he:=(hM.box b bx hm).e;obtain⟨vs,hvs,hcl⟩:=hrow.toList he (box?_own hbx) ha0;have hxc:=hx.cells;have hsz:cx.cells.size=n:=by rw[<-K];simpa using hxc.1.symm
  have hrun: ∀o,o+n≤vs.length->(∀u∈cx.cells.toList,u.oneCell'=true)->(Instr.storeAt t (.pointer (some ⟨B,a0+o,none⟩)) cx).run P w= .ok () (w.setCells B (a0+o) cx.cells.toList):=by
   intro o ho h1;have hsome: ∀j,j<n->(cl w B (a0+o+j)).isSome=true:=λj N=>by rw[ye2,hcl _ (by omega),yf (by omega)];rfl
   have:=BE (P:=P) hn hsz hsome (λj N=>hfz.cell (hsome j N)) h1;simp[Instr.storeAt,Instr.sureAddr,this]
  obtain⟨gen,frz,row⟩:=bx;simp only at W hgen hl hvs hcl he ha0;subst hgen;split at h
  ·rename_i e cs V;simp only at V;subst V;rw[aA]at h;obtain⟨hc,h⟩:=h;simp only[yc]at hc;have hle:=cO.1 hc.1;obtain rfl:=ya h;refine⟨rfl,?_⟩;obtain⟨U,hv1,hcnt,hvv⟩:=hvs;have hcl2:vs.length=cs.length:=by rw[U];show aR e cs.length*e=cs.length;rw[yx2];exact hcnt.symm
   have hL:iW G w cs vs:=⟨hcl2.symm,λj y M=>by obtain⟨u,Y,hp⟩:=hvv j y M;rw[ym,Y];exact hp⟩
   have H:=hxc.ones hc.2;have hnew:=hL.setCells (i:=i*e+c) hxc;have J:bL G w (.avs e (setCells cs (i*e+c) x.cells)) (bF vs (i*e+c) cx.cells.toList):=by
    have hsl:(setCells cs (i*e+c) x.cells).length=cs.length:=mU (as:=cs);refine⟨?_,λu Y=>?_,by rw[hsl];exact hcnt,λj y M=>?_⟩
    ·show _=aR e (setCells cs (i*e+c) x.cells).length*e;rw[iR,hsl,hcl2,yx2];exact hcnt
    ·obtain⟨j,N,rfl⟩:=yx1 Y;have hg:=lX (xs:=cx.cells.toList) (vs:=vs) (o:=i*e+c) (j:=j) (by simp[hsz];omega);rw[yf N]at hg;split at hg
     ·exact H _ (yk hg.symm)
     ·exact hv1 _ (yk hg.symm)
    ·have N:j<(bF vs (i*e+c) cx.cells.toList).length:=by rw[<-hnew.1];exact(yd.1 M).1
     have:=hnew.2 j y M;rw[ym,yf N]at this;exact⟨_,yf N,this⟩
   have hsl:(setCells cs (i*e+c) x.cells).length=cs.length:=mU (as:=cs);obtain⟨hev,hM'⟩:=Dj (row':= .cells e (setCells cs (i*e+c) x.cells)) (o:=i*e+c) (xs:=cx.cells.toList) hM hm hl W hcl (by simp[hsz];omega) rfl (by simp only[aZ.len];rw[hsl]) (λ_=>ha0 rfl) rfl J;exact⟨G,_,hrun _ (by show i*e+c+n≤_;omega) H,c5.refl G,hev,by rw[dO];exact hM'⟩
  ·rename_i k xs V;simp only at V;subst V;split at h
   ·rename_i k' z _;rw[aA]at h;obtain⟨hc,h⟩:=h;simp only[yc]at hc;obtain⟨⟨hk,hc0⟩,hi⟩:=hc;rw[kS]at hk;subst hk;obtain rfl:=bN.1 hc0;have hi:=cO.1 hi;obtain rfl:=ya h;refine⟨rfl,?_⟩;obtain rfl:=hx.lit_inv;obtain⟨U,hv1,hvv⟩:=hvs;simp only[aZ.all,aL.len,aL.e,yt3]at U;have hcells:(Value.int k z).cells.toList= [Value.int k z]:=rfl;have J:bL G w (.ints k (xs.set i z)) (bF vs i [Value.int k z]):=by
     refine⟨by simp[aL.len,aL.e,iR,U],λu Y=>?_,λj y M=>?_⟩
     ·simp only[bF]at Y;rcases yi2 Y with h|h
      ·exact hv1 u h
      ·rw[h];rfl
     ·simp only[bF];by_cases e:j=i
      ·subst e;rw[yt (by omega)]at M⊢
       simp at M;rw[M]
      ·rw[yo (λx=>e x.symm)]at M⊢
       exact hvv j y M
    have hn1:n=1:=by rw[<-K];rfl
    subst hn1;obtain⟨hev,hM'⟩:=Dj (row':= .ints k (xs.set i z)) (o:=i) (xs:= [Value.int k z]) hM hm hl W hcl (by simp;omega) rfl (by simp[aZ.len]) (λh=>by cases h) rfl J;refine⟨G,_,?_,c5.refl G,hev,by rw[dO];exact hM'⟩;have:=hrun i (by omega) (by simp[hcells,Value.oneCell']);rw[hcells]at this;have e0:i*(aZ.ints k xs).e+0=i:=by simp[aZ.e]
    rw[e0];exact this
   ·simp at h
  ·rename_i β e xs V;simp only at V;subst V;rw[bind_some]at h;obtain⟨p,hp,h⟩:=h;rw[bind_some]at h;obtain⟨q,hq,h⟩:=h;rw[aA]at h;obtain⟨hc,h⟩:=h;simp only[yc,yw]at hc;obtain⟨⟨hce,hpl⟩,hnb⟩:=hc;have hce:=cO.1 hce;have hpl:=bN.1 hpl;have hnb:b∉q.2.2:=λhh=>by rw[rD.2 hh]at hnb;cases hnb
   obtain rfl:=ya h;refine⟨rfl,?_⟩;obtain⟨ql,qq⟩:=rM hM hq hx;have hM1:=hM.freeze q.2.2;have hg1:=c5.frz G (aW G w mem q.2.2) hM.inBoxes;have hm1:(aN mem (cA mem q.2.2))[b]?=some (some ⟨gen,frz,.pvs β e xs⟩):=by
    rw[(eB mem q.2.2 mem b rfl).2.1 (.inl hnb)];exact hm
   have hvs1:bL (G.frz (aW G w mem q.2.2)) w (.pvs β e xs) vs:=hvs.mono hg1 (Ev.refl G w);obtain⟨U,hv1,hxl,hvv⟩:=hvs1;simp only[aL.len,aL.e]at U;simp only[aZ.e]at he;have hi:=(yd.1 hp).1;have hpos:i*e+c+n≤vs.length:=by
    rw[U]
    calc i*e+c+n≤i*e+e:=by omega
     _=(i+1)*e:=by rw[yt1];simp
     _≤xs.length*e:=ym2 _ hi
   have H: ∀u∈cx.cells.toList,u.oneCell'=true:=by
    intro u Y;obtain⟨j,N,rfl⟩:=yx1 Y;have hj2:j<q.2.1.cells.length:=by rw[ql,hxc.1];exact N
    obtain⟨u',hu',_,h1⟩:=qq j _ (yf hj2);rw[yf N]at hu';obtain rfl:=ya hu';exact h1
   generalize hp':(bif n.beq e&&c.beq 0 then q.2.1 else PV.agg (p5 p.cells c q.2.1.cells))=p';have hp'c: ∀(j:Nat),p'.cells[j]?=if c≤j/\j<c+n then q.2.1.cells[j-c]? else p.cells[j]?:=by
    intro j;have hqn:q.2.1.cells.length=n:=by rw[ql,K]
    cases O:(n.beq e&&c.beq 0)with
    |true=>
     rw[O]at hp';simp only[yg]at hp';subst hp';simp only[yc]at O;obtain rfl:=bN.1 O.1;obtain rfl:=bN.1 O.2;by_cases N:j<n
     ·rw[if_pos (by omega)];simp
     ·rw[if_neg (by omega),yd1 (by omega),yd1 (by omega)]
    |false=>
     rw[O]at hp';simp only[yh]at hp';subst hp'
     show(p5 p.cells c q.2.1.cells)[j]?=_
     rw[GZ (by omega),hqn]
   have hp'l:p'.cells.length=e:=by
    have h1:p'.cells[e]?=none:=by rw[hp'c,if_neg (by omega),yd1 (by omega)]
    have h2: ∃y,p'.cells[e-1]?=some y:=by
     rw[hp'c];split
     ·rename_i hh;exact⟨_,yf (by rw[ql,K];omega)⟩
     ·exact⟨_,yf (by omega)⟩
    obtain⟨y,M⟩:=h2;have:=(yd.1 M).1;have:=List.getElem?_eq_none_iff.1 h1;omega
   have J:bL (G.frz (aW G w mem q.2.2)) w (.pvs (β||q.1) e (xs.set i p')) (bF vs (i*e+c) cx.cells.toList):=by
    have hg:=λj=>lX (xs:=cx.cells.toList) (vs:=vs) (o:=i*e+c) (j:=j) (by simp[hsz];omega);have Z:=hM1.lab;refine⟨by simp[aL.len,aL.e,iR,U],λu Y=>?_,λx hx=>?_,λi' x c' y hx M=>?_⟩
    ·obtain⟨j,N,rfl⟩:=yx1 Y;have hg:=hg j;rw[yf N]at hg;split at hg
     ·exact H _ (yk hg.symm)
     ·exact hv1 _ (yk hg.symm)
    ·rcases yi2 hx with h|h
     ·exact hxl x h
     ·rw[h];exact hp'l
    ·have hc'e:c'<e:=by
      have h0:=(yd.1 M).1;have:x.cells.length=e:=by
       rcases yi2 (yk hx)with h|h
       ·exact hxl x h
       ·rw[h];exact hp'l
      omega
     rw[hg];simp only[yd2,hsz];by_cases hii:i'=i
     ·subst hii;rw[yt hi]at hx;obtain rfl:=ya hx;rw[hp'c]at M;by_cases O:c≤c'/\c'<c+n
      ·rw[if_pos O]at M;rw[if_pos (by omega),show i'*e+c'-(i'*e+c)=c'-c by omega];obtain⟨u,Y,hpu,_⟩:=qq _ y M;exact⟨u,Y,hpu.weak' Z⟩
      ·rw[if_neg O]at M;rw[if_neg (by omega)];obtain⟨u,Y,hpu⟩:=hvv i' p c' y hp M;exact⟨u,Y,hpu.weak Z⟩
     ·rw[yo (λx=>hii x.symm)]at hx;obtain⟨u,Y,hpu⟩:=hvv i' x c' y hx M;refine⟨u,?_,hpu.weak Z⟩;rw[if_neg ?_]
      ·exact Y
      ·rintro⟨h1,h2⟩
       rcases Nat.lt_or_gt_of_ne hii with hlt|hlt
       ·have:i'*e+e≤i*e:=by
         calc i'*e+e=(i'+1)*e:=by rw[yt1];simp
          _≤i*e:=ym2 _ hlt
        omega
       ·have:i*e+e≤i'*e:=by
         calc i*e+e=(i+1)*e:=by rw[yt1];simp
          _≤i'*e:=ym2 _ hlt
        omega
   obtain⟨hev,hM'⟩:=Dj (row':= .pvs (β||q.1) e (xs.set i p')) (o:=i*e+c) (xs:=cx.cells.toList) hM1 hm1 hl W hcl (by simp[hsz];omega) rfl (by simp[aZ.len]) (λ_=>ha0 rfl) rfl J;refine⟨_,_,hrun _ (by show i*e+c+n≤_;omega) H,hg1,?_,by rw[PA];exact hM'⟩;have hjj: ∀j,j<cx.cells.toList.length->i*e+c+j<vs.length:=λj N=>by simp[hsz]at N;omega
   exact Ev.setCells hmine (λj N=>by show(cl w B (a0+(i*e+c)+j)).isSome=true;rw[ye2,hcl _ (hjj j N),yf (hjj j N)];rfl) (hpr W)
  ·cases h
 ·simp at h
end
end Go.Ab
end
section
namespace Go.Ab
variable [cF]
section
variable {P:Program}
structure C3 (P:Program) (t et:TypeId) (s:Nat) (i:TypeInfo) (z:Value):Prop where
 under:P.underlying t=some (.slice et)
 info:P.info? et=some i
 size:i.size=s
 zero:i.zero=some z
 zsize:z.cells.size=s
 bytes:i.bytes≤4096
 one:1≤s
theorem yR{n bytes:Nat}(hn:n≤bJ)(H:bytes≤4096):n*bytes≤140737488355328:=by
 have:n*bytes≤n*4096:=Nat.mul_le_mul_left n H;unfold bJ at hn;omega
structure wU (G:Gh) (w:World) (mem:aK) (b g':Nat) (row':aZ) (Bold:Option Nat) (vs:List Value):Prop where
 row: ∀(w1:World) (B' a:Nat),(row'.isInts=false->a=0)->Ev G w w1->(∀X,X<w.heap.size->Bold≠some X->w1.heap[X]?=w.heap[X]?)->(∀j u,vs[j]?=some u->cl w1 B' (a+j)=some u)->iD (G.put b g' ⟨some B',row'.e,row'.len,a⟩) w1 B' a row'
 inn: ∀(w1:World) (B' a i c X:Nat),(row'.isInts=false->a=0)->(∀j u,vs[j]?=some u->cl w1 B' (a+j)=some u)->cN w1 B' row' i c X->∃(x:bK) (B:Nat),mem[b]?=some (some x)/\eT G b x B/\cN w B x.row i c X
theorem wU.plain{G:Gh}{w:World}{mem:aK}{b g':Nat}{row':aZ}{Bold:Option Nat}{vs:List Value}(M:G.loc b g'=none)(J:row'.isOwn=false)(U:bL G w row'.all vs):wU G w mem b g' row' Bold vs:=
 ⟨λN B' a O H _ K=>iD.ofList J O (U.mono (c5.put (.inl M)) H) K,λN B' a i c X _ _ h=>by rw[h.own]at J;cases J⟩
theorem K6{G:Gh}{w M:World}{mem:aK}{b g':Nat}{row':aZ}{B' a:Nat}{Bold:Option Nat}{vs:List Value}(K:row'.isInts=false->a=0)(hM:aH G w mem)(hb:b<mem.length)(hev:Ev G w M)(Z: ∀g,g'≤g->G.loc b g=none)
  (he:1≤row'.e) (U:G.mine B') (hlt:B'<M.heap.size) (hfz:gW M B') (hpr: ∀β o,¬G.prot β B' o)
  (H: ∀X,X<w.heap.size->Bold≠some X->M.heap[X]?=w.heap[X]?) (W: ∀X,j8 G w mem b X->Bold≠some X) (J:B'=w.heap.size\/∃x,mem[b]?=some (some x)/\eT G b x B'/\Bold=some B')
  (hv:wU G w mem b g' row' Bold vs) (O: ∀j u,vs[j]?=some u->cl M B' (a+j)=some u):
  ∃G',c5 G G'/\G'.loc b g'=some ⟨some B',row'.e,row'.len,a⟩/\aH G' M (mem.set b (some {gen:=g',frz:=false,row:=row'})):=by
 have hg:c5 G (G.put b g' ⟨some B',row'.e,row'.len,a⟩):=c5.put (.inl (Z g' (ya1 _)));have hBne: ∀X,j8 G w mem b X->X≠B':=by
  intro X hO;rcases J with rfl|⟨x,V,hB,_⟩
  ·exact Nat.ne_of_lt (hM.other hO).2.1
  ·exact hM.other_ne V hB hO
 refine⟨_,hg,Gh.put_self ..,hM.upd (x':={gen:=g',frz:=false,row:=row'}) hev hb (.inl (Z g' (ya1 _))) ⟨λX hO=>H X (hM.other hO).2.1 (W X hO),λC hC hO=>?_,λC hC i c X hi=>?_,λC hC i c i2 c2 X hi Y=>?_⟩ (λg hg=>Z g (Nat.le_of_lt hg)) ?_⟩
 ·simp only[Option.some.injEq]at hC;subst hC;exact hBne _ hO rfl
 ·simp only[Option.some.injEq]at hC;subst hC;obtain⟨x,B,V,hB,N⟩:=hv.inn M B' a i c X K O hi;refine⟨hM.other_inn V hB N,?_⟩;rcases J with hp|⟨x',hx',hB',_⟩
  ·rw[hp];exact Nat.ne_of_lt (hM.inn V hB N).2.1
  ·intro hXB;rw[hXB]at N;exact hM.inA b b x x' B i c _ V hB N hx' hB'
 ·simp only[Option.some.injEq]at hC;subst hC;obtain⟨x,B,V,hB,hi⟩:=hv.inn M B' a i c X K O hi;obtain⟨x2,B2,hx2,hB2,Y⟩:=hv.inn M B' a i2 c2 X K O Y;exact(hM.inB b b x x2 B B2 i c i2 c2 X V hB hi hx2 hB2 Y).2
 ·exact⟨he,some B',a,Gh.put_self ..,K,U,hlt,hfz,hv.row M B' a K hev H O,λ_=>hpr⟩
theorem C8{G:Gh}{w:World}{mem:aK}{b g':Nat}{row':aZ}(hM:aH G w mem)(N:b<mem.length)(H: ∀g,g'≤g->G.loc b g=none)
  (O:1≤row'.e) (M:row'.len=0) (hc:row'.isCells=false):
  ∃J,c5 G J/\J.loc b g'=some ⟨none,row'.e,row'.len,0⟩/\aH J w (mem.set b (some {gen:=g',frz:=false,row:=row'})):=by
 have K:c5 G (G.put b g' ⟨none,row'.e,row'.len,0⟩):=c5.put (.inl (H g' (ya1 _)));refine⟨_,K,Gh.put_self ..,hM.upd (x':={gen:=g',frz:=false,row:=row'}) (Ev.refl G w) N (.inl (H g' (ya1 _))) ⟨λ_ _=>rfl,λ_ h=>(nomatch h),λ_ h=>(nomatch h),λ_ h=>(nomatch h)⟩ (λg K=>H g (Nat.le_of_lt K)) ?_⟩;exact⟨O,none,0,Gh.put_self ..,λ_=>rfl,M,hc⟩
theorem rK(w:World)(c:Array Value)(t:TypeId):(∀B,B<w.heap.size->(w.drew.alloc (.cells c t)).heap[B]?=w.heap[B]?)/\(w.drew.alloc (.cells c t)).heap.size=w.heap.size+1/\
  (∀j,cl (w.drew.alloc (.cells c t)) w.heap.size j=c[j]?)/\gW (w.drew.alloc (.cells c t)) w.heap.size:=by
 refine⟨λB hB=>?_,by simp,λj=>?_,?_⟩
 ·have:=fH (w:=w.drew) (o:= .cells c t) (B:=B) (by simpa using hB);rw[this];rfl
 ·have:=kP (w:=w.drew) (c:=c) (t:=t) (fr:=(0,0)) (j:=j);simpa using this
 ·exact gW.alloc (w:=w.drew)
theorem Ev.drew_alloc(G:Gh)(w:World)(o:Obj)(J: ∀β B x,G.prot β B x->B<w.heap.size)(H: ∃c t,o= .cells c t:=by exact⟨_,_,rfl⟩):Ev G w (w.drew.alloc o):=
 (Ev.drew G w).trans (c5.refl G) (Ev.alloc G w.drew o J H)
theorem HU{G:Gh}{w:World}{mem:aK}{b g':Nat}{row':aZ}{t M ty tx:TypeId}{s:Nat}{i:TypeInfo}{z:Value}{base:Option Addr}{len cap n:Nat}{olds H:List Value}{y:Value}
    (hM:aH G w mem) (hb:b<mem.length) (hno: ∀g,g'≤g->G.loc b g=none) (hE:C3 P t M s i z)
    (Y:(Builtin.firstCells i.size len (.slice base len cap)).run P w.drew= .ok olds.toArray w.drew) (hol:olds.length=len*s) (hs:Src P s tx y n H w)
    (J:cap<len+n) (K:len+n≤bJ) (he:row'.e=s) (N:row'.len=len+n) {Bold:Option Nat} (V: ∀X,j8 G w mem b X->Bold≠some X) (hv:wU G w mem b g' row' Bold (olds++H)):
    ∃W w1 cv,(Builtin.append_ #[t,tx] ty #[.slice base len cap,y]).run P w= .ok cv w1/\VR W w1 (.msw b g') cv/\c5 G W/\Ev G w w1/\aH W w1 (mem.set b (some {gen:=g',frz:=false,row:=row'})):=by
  have hfit:=growslice_fits (bytes:=i.bytes) J (yR K hE.bytes);have U:=run_append_grow_src (P:=P) w t tx ty M i z hE.under hE.info hE.zero base len cap olds Y y n H (by rw[hE.size];exact hs) J (by unfold bJ at K;omega) hfit;generalize hc:(olds++H).toArray++Builtin.zeroCells z.cells (grownCap w (len+n) cap M-(len+n))=c at U;obtain⟨f1,f2,f3,f4⟩:=rK w c M;have Z:=Ev.drew_alloc G w (.cells c M) hM.away;have O:len+n≤grownCap w (len+n) cap M:=grownCap_ge w _ _ _;have hcl: ∀j u,(olds++H)[j]?=some u->cl (w.drew.alloc (.cells c M)) w.heap.size (0+j)=some u:=by
    intro j u hu;rw[yc1,f3,<-hc,yi3 (by simpa using(yd.1 hu).1)];simpa using hu
  obtain⟨W,hg,hl,hM'⟩:=K6 (row':=row') (B':=w.heap.size) (a:=0) (vs:=olds++H) (λ_=>rfl) hM hb Z hno (by rw[he];exact hE.one) (hM.own _ (ya1 _)) (by rw[f2];omega) f4
    (fun β o hp=>absurd (hM.away β _ o hp) (yj4 _)) (λX hX _=>f1 X hX) V (.inl rfl) hv hcl
  refine⟨W,_,_,U,?_,hg,Z,hM'⟩;generalize grownCap w (len+n) cap M=C at hc O⊢
  have hk:VR W (w.drew.alloc (.cells c M)) (.msw b g') (.slice (some ⟨w.heap.size,0,none⟩) row'.len C):=by
   refine .msw b g' _ _ w.heap.size hl rfl (by simp only;rw[N];exact O) (λj hj=>?_);simp only[he,yc1]at hj;rw[f3,<-hc];have hn:=hs.newsLen
   rw[yb2 (by
    simp only[Array.size_append,List.size_toArray,yi,size_zeroCells,hol,hn,hE.zsize];rw[<-yt1,<-yt1]
    exact yj2 hj (ym2 _ (by omega)))]
   rfl
  rw[N]at hk;exact hk
theorem AW{G:Gh}{w:World}{mem:aK}{b:Nat}{x:bK}{row':aZ}{B a a1 cap H K:Nat}{vs0 J:List Value}{t et ty tx:TypeId}{s:Nat}{i:TypeInfo}{z:Value}{y:Value}
  (hM:aH G w mem) (hx:mem[b]?=some (some x)) (hl:G.loc b x.gen=some ⟨some B,x.row.e,x.row.len,a⟩) (hia:row'.isInts=false->a1=0) (hfrz:x.frz=false) (hE:C3 P t et s i z)
  (V:vs0.length=H*s) (hcl0: ∀j u,vs0[j]?=some u->cl w B (a1+j)=some u) (hcap:H≤cap) (Z:Dl w B (a1+cap*s))
  (hs:Src P s tx y K J w) (hre:row'.e=s) (W:row'.len=H+K) (hok:wU G w mem b (x.gen+1) row' (some B) (vs0++J)) (hmost:row'.len≤bJ):
  ∃G' w1 cv,(Builtin.append_ #[t,tx] ty #[.slice (some ⟨B,a1,none⟩) H cap,y]).run P w= .ok cv w1/\VR G' w1 (.msw b (x.gen+1)) cv/\c5 G G'/\Ev G w w1/\
   aH G' w1 (mem.set b (some {gen:=x.gen+1,frz:=false,row:=row'})):=by
 have hbl:b<mem.length:=(yd.1 hx).1;have hno: ∀g,x.gen+1≤g->G.loc b g=none:=λg hg=>hM.gens b x g hx hg;have hB:eT G b x B:=⟨_,hl,rfl⟩
 have hnl:=hs.newsLen;have O: ∀X,j8 G w mem b X->some B≠some X:=λX hO h=>hM.other_ne hx hB hO (ya h).symm;by_cases N:H+K≤cap
 ·obtain⟨_,_,_,h1,h2,h3,h4,h5⟩:=hM.blk hx hB;have M: ∀j,j<J.length->(cl w B (a1+H*s+j)).isSome=true:=by
   intro j hj;refine Z _ ?_;rw[hnl]at hj;rw[ye2];refine Nat.add_lt_add_left ?_ _
   calc H*s+j<H*s+K*s:=by omega
    _=(H+K)*s:=by rw[yt1]
    _≤cap*s:=ym2 _ N
  have Y:=run_append_room_src (P:=P) w t tx ty et i hE.under hE.info B a1 H cap y K J (by rw[hE.size];exact hs) N
   (λj hj=>by rw[hE.size];exact M j hj) (λj hj=>by rw[hE.size];exact h3.cell (M j hj))
  rw[hE.size]at Y;have hev:=Ev.setCells (G:=G) (vs:=J) h1 M (h5 hfrz);have hcl: ∀j u,(vs0++J)[j]?=some u->cl (w.setCells B (a1+H*s) J) B (a1+j)=some u:=by
   intro j u U;by_cases hj:j<vs0.length
   ·rw[yq hj]at U;rw[jL (by rw[<-V];exact .inl (Nat.add_lt_add_left hj _))];exact hcl0 j u U
   ·rw[yx (by omega)]at U;obtain⟨k,rfl⟩: ∃k,j=H*s+k:=⟨j-vs0.length,by omega⟩
    rw[V,yx3]at U;have hk:=(yd.1 U).1;rw[<-ye2,kR M hk];rw[yf hk]at U;exact U
  obtain⟨G',hg,hl2,hM'⟩:=K6 (row':=row') (B':=B) (a:=a1) (Bold:=some B) (vs:=vs0++J) hia hM hbl hev hno (by rw[hre];exact hE.one) h1 (by rw[l9];exact h2)
   h3.setCells (h5 hfrz) (λX _ hX=>dK (w:=w) (λh=>hX (by rw[h])) J _ w) O (.inr ⟨x,hx,hB,rfl⟩) hok hcl
  refine⟨G',_,_,Y,?_,hg,hev,hM'⟩;have hk:VR G' (w.setCells B (a1+H*s) J) (.msw b (x.gen+1)) (.slice (some ⟨B,a1,none⟩) row'.len cap):=by
   refine .msw b (x.gen+1) cap _ B hl2 rfl (by simp only;rw[W];exact N) ?_;simp only[hre];exact Z.mono hev
  rw[W]at hk;exact hk
 ·refine HU (row':=row') (olds:=vs0) (s:=s) hM hbl hno hE ?_ V hs (by omega) (by rw[<-W];exact hmost) hre W O hok;rw[hE.size];exact run_firstCells_some w.drew s H ⟨B,a1,none⟩ H cap vs0 V (λj u U=>by rw[dC];exact hcl0 j u U)
theorem GW{G:Gh}{w:World}{mem:aK}{b:Nat}{x:bK}{xv yv V:aL}{B a a1 cap:Nat}{vs0 H:List Value}{t et ty tx:TypeId}{s:Nat}{i:TypeInfo}{z:Value}{y:Value}
  (hM:aH G w mem) (hx:mem[b]?=some (some x)) (hl:G.loc b x.gen=some ⟨some B,x.row.e,x.row.len,a⟩) (hia:V.row.isInts=false->a1=0) (Y:x.frz=false) (hE:C3 P t et s i z) (hse:s=x.row.e)
  (O:xv.e=s) (N:bL G w xv vs0) (Z: ∀j u,vs0[j]?=some u->cl w B (a1+j)=some u) (M:xv.len≤cap) (W:Dl w B (a1+cap*s))
  (hs:Src P s tx y yv.len H w) (J:bL G w yv H) (U:xv.app P et yv=some V) (K:V.len≤bJ):
  ∃G' w1 cv,(Builtin.append_ #[t,tx] ty #[.slice (some ⟨B,a1,none⟩) xv.len cap,y]).run P w= .ok cv w1/\VR G' w1 (.msw b (x.gen+1)) cv/\c5 G G'/\Ev G w w1/\
   aH G' w1 (mem.set b (some {gen:=x.gen+1,frz:=false,row:=V.row})):=by
 obtain⟨hz,hze,hze2,hzl⟩:=Dc hM.lab U N J;exact AW hM hx hl hia Y hE (by rw[N.1,O]) Z M W hs (by rw[lP,hze,O]) (by rw[f9,hzl])
  (.plain (hM.gens b x _ hx (yy2 _)) (kU V) (by rw[kN];exact hz)) (by rw[f9];exact K)
theorem mG{G:Gh}{w:World}{mem:aK}{b g':Nat}{row':aZ}{n:Nat}{H:List Value}{t W ty U:TypeId}{s:Nat}{i:TypeInfo}{z:Value}{y:Value}
  (hM:aH G w mem) (Z:b<mem.length) (N: ∀g,g'≤g->G.loc b g=none) (hE:C3 P t W s i z) (hs:Src P s U y n H w) (hn:n≤bJ) (Y:row'.e=s) (J:row'.len=n) (hv:wU G w mem b g' row' none H)
  (hc:n=0->row'.isCells=false):
  ∃M O cv,(Builtin.append_ #[t,U] ty #[.slice none 0 0,y]).run P w= .ok cv O/\VR M O (.msw b g') cv/\c5 G M/\Ev G w O/\
   aH M O (mem.set b (some {gen:=g',frz:=false,row:=row'})):=by
 by_cases h0:n=0
 ·subst h0;have K:H= []:=yu (by rw[hs.newsLen];simp);subst K;obtain⟨M,hg,hl,V⟩:=C8 (row':=row') hM Z N (by rw[Y];exact hE.one) J (hc rfl);exact⟨M,w,_,run_append_nothing (P:=P) w t U ty W i hE.under hE.info none 0 0 (ya1 _) y (by rw[hE.size];exact hs),.mswNil b g' _ hl rfl J,hg,Ev.refl G w,V⟩
 ·exact HU (row':=row') (olds:= []) (base:=none) (len:=0) (cap:=0) hM Z N hE (run_firstCells_none w.drew i.size 0 0 0) (by simp) hs (by omega) (by omega) Y (by omega) (Bold:=none) (λ_ _ h=>by cases h) (by simpa using hv)
end
end Go.Ab
end
section
namespace Go.Ab
variable [cF]
theorem aH.protect{G:Gh}{w:World}{mem:aK}(hM:aH G w mem)(S:Nat->Nat->Prop)(hS: ∀B o,S B o->B<w.heap.size/\G.mine B/\(∀(b:Nat) (x:bK) (e n a:Nat),mem[b]?=some (some x)->x.frz=false->G.loc b x.gen≠some ⟨some B,e,n,a⟩)/\
   ∀(b:Nat) (x:bK) (C i c:Nat),mem[b]?=some (some x)->eT G b x C->¬cN w C x.row i c B):
  aH (G.frz S) w mem:=by
 refine⟨λb x h=>?_,hM.unset,hM.gens,hM.apart,hM.inA,hM.inB,hM.own,λB o h=>h.imp (hM.lab B o) id,fun β B o h=>h.elim (hM.away β B o) (λh=>(hS B o h).1),hM.glob.mono (λ_ _ h=> .inl h) λ_ _ _=>rfl⟩;have N:=hM.box b x h;obtain⟨o,V,K,J,hm⟩:=N.loc;refine⟨N.e,o,V,K,J,?_⟩;cases o with
 |none=>exact hm
 |some B=>
  obtain⟨Z,O,U,W,Y⟩:=hm;have hB:eT G b x B:=⟨_,K,rfl⟩
  refine⟨Z,O,U,W.mono (c5.frz G S λB o h=>(hS B o h).2.1) (Ev.refl G w) (λ_ _=>rfl) (λi c B' M=>⟨.of rfl,fun β o H=>?_⟩),λhf β o H=>?_⟩
  ·rcases H with H|H
   ·exact(hM.inn h hB M).2.2.2 β o H
   ·exact(hS B' o H).2.2.2 b x B i c h hB M
  ·rcases H with H|H
   ·exact Y hf β o H
   ·exact(hS B o H).2.2.1 b x _ _ _ h hf K
theorem aH.new_tree{G:Gh}{w K:World}{mem:aK}(hM:aH G w mem)(J:Ev G w K)(M: ∀B,B<w.heap.size->K.heap[B]?=w.heap[B]?)(V:K.heap.size=w.heap.size+1):
  aH (G.frz λB _=>B=w.heap.size) K mem:=by
 have O:=hM.ev J (.inr J.size) M;refine O.protect _ λB o h=>?_;subst h;refine⟨by omega,hM.own _ (ya1 _),λb x e n a N _ Y=>?_,λb x C i c N hC U=>?_⟩
 ·obtain⟨o,a0,H,W,hm⟩:=(hM.box b x N).loc;rw[Y]at H;have:=congrArg Ff.blk (ya H);simp only at this;subst this;exact yj4 _ hm.2.1
 ·have hs: ∀o,cl K C o=cl w C o:=λo=>dP (M C (hM.blkSz N hC)) o;exact yj4 _ (hM.inn N hC (U.same hs)).2.1
theorem D8{G:Gh}{w:World}{v:aL}{a:AV}{vs:List Value}{B cap:Nat}(W:bL G w v vs)(U:v.imm?=some a)(he:1≤v.e)(N: ∀j u,vs[j]?=some u->cl w B j=some u)
  (V: ∀β o,G.prot β B o) (J:v.len≤cap):VR G w a (.slice (some ⟨B,0,none⟩) v.len cap):=by
 cases v with
 |ints k xs=>
  obtain rfl:=ya U;obtain⟨_,_,h⟩:=W;exact .imm _ _ _ (.ints k xs B 0 cap J λi x H=>by rw[yc1];exact⟨N _ _ (h i x H),V _ _⟩) rfl
 |pvs β e xs=>
  obtain rfl:=ya U;obtain⟨_,h1,Z,h⟩:=W;have M: ∀(i:Nat) (x:PV) (c:Nat) (y:PV),xs[i]?=some x->x.cells[c]?=some y->vs[i*e+c]?=some (vs.getD (i*e+c) undef)/\PR w (G.prot β) y (vs.getD (i*e+c) undef):=by
   intro i x c y H K;obtain⟨u,Y,O⟩:=h i x c y H K;rw[ym,Y];exact⟨rfl,O⟩
  exact .imm _ _ _ (.sl e xs B 0 cap (λi c=>vs.getD (i*e+c) undef) he J Z (λi x c y H K=>by rw[yc1];exact⟨N _ _ (M i x c y H K).1,V _ _⟩)
   (fun i x c y H K => h1 _ (yk (M i x c y H K).1)) (fun i x c y H K => (M i x c y H K).2)) rfl
 |avs e cs=>simp[aL.imm?]at U
theorem L8{G:Gh}{w:World}{v:aL}{a:AV}(H:v.imm?=some a)(J:v.len=0):VR G w a (.slice none 0 0):=by
 cases v with
 |ints k xs=>
  obtain rfl:=ya H;obtain rfl:=yu J;exact .imm _ _ _ (.intsNil k _) rfl
 |pvs β e xs=>
  obtain rfl:=ya H;obtain rfl:=yu J;exact .imm _ _ _ (.slNil e _) rfl
 |avs e cs=>simp[aL.imm?]at H
section
variable {P:Program}
theorem I3{t H:TypeId}{s bytes:Nat}{z:AV}(J:elemOf? P t=some H)(M:jR P H=some s)(V:kT P H=some bytes)(h4:zero? P H=some z)(h5:bytes≤4096)(h6:1≤s)(Y:z.cells.length=s):
  ∃i U,C3 P t H s i U:=by
 obtain⟨i,U,K,Z,O⟩:=lQ h4;have W:P.underlying t=some (.slice H):=by
  unfold elemOf? at J;split at J
  ·obtain rfl:=ya J;assumption
  ·simp at J
 have N:=(mR (G:=⟨λ_ _=>none,λ_ _ _=>False,λ_=>False⟩) (w:=default) O).cells;refine⟨i,U,W,K,?_,Z,?_,?_,h6⟩
 ·unfold jR at M;rw[K]at M;simpa using M
 ·rw[<-Y,N.1];simp
 ·unfold kT at V;rw[K]at V;simp at V;omega
theorem Im{G:Gh}{w:World}{vars:Bool}{O:TypeId}{v:aL}{row:aZ}{vs:List Value}(h:mH P vars O v=some row)(J:bL G w v vs)(M:1≤v.e):
  row.e=v.e/\row.len=v.len/\bL G w row.all vs/\(v.len=0->row.isCells=false):=by
 unfold mH at h;cases vars with
 |true=>
  simp only[yg]at h;rw[aA]at h;obtain⟨N,h⟩:=h;have N:=cO.1 N;rw[bind_some]at h;obtain⟨cs,K,h⟩:=h;rw[aA]at h;obtain⟨U,h⟩:=h;obtain rfl:=ya h;have hL:=Ej K J;have hc:cs.length=v.len*v.e:=by rw[hL.1,J.1]
  refine⟨rfl,?_,bL.ofLRs hL U ?_,λh0=>by omega⟩
  ·show aR v.e cs.length=v.len;rw[hc,iE (n:=0) M]
  ·rw[hc,iE (n:=0) M]
 |false=>
  simp only[yh]at h;split at h
  ·simp at h
  ·rename_i H;obtain rfl:=ya h;refine⟨lP _,f9 _,by rw[kN];exact J,λ_=>?_⟩;cases v with
   |avs e cs=>exact absurd rfl (H e cs)
   |ints k xs=>rfl
   |pvs β e xs=>rfl
theorem KC{vars:Bool}{J:TypeId}{v:aL}{row:aZ}(h:mH P vars J v=some row):row.isOwn=false:=by
 unfold mH at h;cases vars with
 |true=>
  simp only[yg]at h;rw[aA]at h;obtain⟨hl,h⟩:=h;rw[bind_some]at h;obtain⟨cs,H,h⟩:=h;rw[aA]at h;obtain⟨h1,h⟩:=h;obtain rfl:=ya h;rfl
 |false=>
  simp only[yh]at h;split at h
  ·simp at h
  ·obtain rfl:=ya h;exact kU _
theorem Mh{H:TypeId}{x y z:aL}(h:x.app P H y=some z)(J:x.row.isCells=false):z.row.isCells=false:=by
 unfold aL.app at h;split at h
 ·rw[aA]at h;obtain⟨_,h⟩:=h;obtain rfl:=ya h;rfl
 ·rw[aA]at h;obtain⟨_,h⟩:=h;obtain rfl:=ya h;rfl
 ·simp[aL.row,aZ.isCells]at J
 ·simp at h
theorem Fa{r:aZ}{o n:Nat}{v:aL}(h:r.sub o n=some v)(hr:r.isCells=false):v.row.isCells=false:=by
 cases r with
 |ints k xs=>simp only[aZ.sub]at h;rw[aA]at h;obtain⟨_,h⟩:=h;obtain rfl:=ya h;rfl
 |pvs β e xs=>simp only[aZ.sub]at h;rw[aA]at h;obtain⟨_,h⟩:=h;obtain rfl:=ya h;rfl
 |cells e cs=>simp[aZ.isCells]at hr
 |own e xs hs=>cases h
theorem Lm{r:aZ}(hr:r.isCells=false):r.all.row.isCells=false:=by cases r<;>first|rfl|cases hr
theorem vZ{G:Gh}{w:World}{mem:aK}{b:Nat}{x:bK}{xv O N:aL}{H:List Value}{t et ty tx:TypeId}{s:Nat}{i:TypeInfo}{z:Value}{y:Value}
  (hM:aH G w mem) (U:mem[b]?=some (some x)) (hE:C3 P t et s i z) (V:xv.e=s) (hx0:xv.len=0) (hxc:xv.row.isCells=false) (W:bL G w xv [])
  (hs:Src P s tx y O.len H w) (K:bL G w O H) (J:xv.app P et O=some N) (Z:N.len≤bJ):
  ∃Y M cv,(Builtin.append_ #[t,tx] ty #[.slice none 0 0,y]).run P w= .ok cv M/\VR Y M (.msw b (x.gen+1)) cv/\c5 G Y/\Ev G w M/\
   aH Y M (mem.set b (some {gen:=x.gen+1,frz:=false,row:=N.row})):=by
 obtain⟨hz,hze,_,hzl⟩:=Dc hM.lab J W K;exact mG hM (yd.1 U).1 (λg hg=>hM.gens b x g U hg) hE hs (by omega) (by rw[lP,hze,V]) (by rw[f9];omega) (.plain (hM.gens b x _ U (yy2 _)) (kU N) (by rw[kN];simpa using hz)) (λ_=>Mh J hxc)
theorem bL.nilOf{G:Gh}{w:World}{v:aL}(H:v.len=0)(hc:v.row.isCells=false):bL G w v []:=by
 cases v with
 |ints k xs=>
  obtain rfl:=yu H;exact⟨rfl,by simp,by simp⟩
 |pvs β e xs=>
  obtain rfl:=yu H;exact⟨by simp[aL.len],by simp,by simp⟩
 |avs e cs=>simp[aL.row,aZ.isCells]at hc
theorem SL{r:aZ}{o n:Nat}{v:aL}(J:1≤r.e)(h:r.sub o n=some v):v.len=n:=by
 cases r with
 |ints k xs=>
  simp only[aZ.sub]at h;rw[aA]at h;obtain⟨H,h⟩:=h;obtain rfl:=ya h;have:=cO.1 H;simp[aL.len];omega
 |pvs β e xs=>
  simp only[aZ.sub]at h;rw[aA]at h;obtain⟨H,h⟩:=h;obtain rfl:=ya h;have:=cO.1 H;simp[aL.len];omega
 |cells e cs=>
  simp only[aZ.sub]at h;rw[aA]at h;obtain⟨H,h⟩:=h;obtain rfl:=ya h;have H:=cO.1 H;rw[yt1]at H;have:((cs.drop (o*e)).take (n*e)).length=n*e:=by simp;omega
  simp only[aL.len];rw[this];exact iE (n:=0) J n
 |own e xs hs=>cases h
theorem Sa(r:aZ):r.all.row.isInts=r.isInts:=by cases r<;>rfl
theorem RW{r:aZ}{o n:Nat}{v:aL}(h:r.sub o n=some v):v.row.isInts=r.isInts:=by
 cases r<;>simp only[aZ.sub]at h<;>first|(cases h;done)|skip<;>rw[aA]at h<;>obtain⟨_,h⟩:=h<;>obtain rfl:=ya h<;>rfl
theorem MW{t:TypeId}{x y z:aL}(h:x.app P t y=some z):z.row.isInts=x.row.isInts:=by
 unfold aL.app at h;split at h
 ·rw[aA]at h;obtain⟨_,h⟩:=h;obtain rfl:=ya h;rfl
 ·rw[aA]at h;obtain⟨_,h⟩:=h;obtain rfl:=ya h;rfl
 ·rw[bind_some]at h;obtain⟨_,_,h⟩:=h;rw[aA]at h;obtain⟨_,h⟩:=h;obtain rfl:=ya h;rfl
 ·cases h
theorem Ij{G:Gh}{w:World}{mem:aK}{boxed vars:Bool}{t tx ty:TypeId}{rs:Nat}{x y:AV}{out:dI}{cx cy:Value}(hM:aH G w mem)(hrs:mem[rs]?=some none)
  (h:iM P boxed vars t tx mem rs x y=some out) (hx:VR G w x cx) (hy:VR G w y cy):
  ∃G' w1 cv,(Builtin.append_ #[t,tx] ty #[cx,cy]).run P w= .ok cv w1/\VR G' w1 out.v cv/\c5 G G'/\Ev G w w1/\aH G' w1 (out.apply mem):=by
 unfold iM at h;rw[bind_some]at h;obtain⟨et,het,h⟩:=h;rw[bind_some]at h;obtain⟨s,hs,h⟩:=h;rw[bind_some]at h;obtain⟨bytes,hby,h⟩:=h;rw[bind_some]at h;obtain⟨z,hz,h⟩:=h;rw[bind_some]at h;obtain⟨yv,hyv,h⟩:=h;rw[aA]at h;obtain⟨hg,h⟩:=h;simp only[yc]at hg;obtain⟨⟨⟨⟨g1,g2⟩,g3⟩,g4⟩,g5⟩:=hg;have g1:=bN.1 g1;have g3:=cO.1 g3;have g4:=cO.1 g4;have g5:=bN.1 g5;obtain⟨i,zv0,hE⟩:=I3 het hs hby hz g3 g4 g5;obtain⟨Y,H,J⟩:=A5 hM hyv hy (by rw[<-g1];exact hs) g2;rw[<-g1]at H;split at h
 ·obtain rfl:=hx.lit_inv;rw[aA]at h;obtain⟨hml,h⟩:=h;have hml:=cO.1 hml;have hno: ∀g,0≤g->G.loc rs g=none:=λg _=>hM.unset rs g (λx hx=>by rw[hrs]at hx;cases hx);have hrl:=(yd.1 hrs).1;cases boxed with
  |true=>
   simp only[yg]at h;obtain⟨row,hrow,rfl⟩:=ye.1 h;obtain⟨r1,r2,r3,r4⟩:=Im hrow J (by omega);rw[dO];exact mG hM hrl hno hE H hml (by rw[r1,g1]) r2 (.plain (hno 0 (ya1 _)) (KC hrow) r3) r4
  |false=>
   simp only[yh]at h;obtain⟨v,hv,rfl⟩:=ye.1 h;rw[Ha];by_cases h0:yv.1.len=0
   ·rw[h0]at H;have hnn:Y= []:=yu (by rw[H.newsLen];simp);subst hnn;exact⟨G,w,_,run_append_nothing (P:=P) w t tx ty et i hE.under hE.info none 0 0 (ya1 _) cy (by rw[hE.size];exact H),L8 hv h0,c5.refl G,Ev.refl G w,hM⟩
   ·have hrun:=run_append_grow_src (P:=P) w t tx ty et i zv0 hE.under hE.info hE.zero none 0 0 [] (run_firstCells_none w.drew i.size 0 0 0) cy yv.1.len Y (by rw[hE.size];exact H) (by omega)
     (by unfold bJ at hml;omega) (growslice_fits (bytes:=i.bytes) (by omega) (yR (by omega) hE.bytes))
    generalize hc:([]++Y).toArray++Builtin.zeroCells zv0.cells (grownCap w (0+yv.1.len) 0 et-(0+yv.1.len))=c at hrun;obtain⟨f1,f2,f3,f4⟩:=rK w c et;have hev:=Ev.drew_alloc G w (.cells c et) hM.away;have hM':=hM.new_tree hev f1 f2;have hg:=c5.frz G (λB _=>B=w.heap.size) (λB _ h=>by subst h;exact hM.own _ (ya1 _));refine⟨_,_,_,hrun,?_,hg,hev,hM'⟩;have hcap:0+yv.1.len≤grownCap w (0+yv.1.len) 0 et:=grownCap_ge w _ _ _;generalize grownCap w (0+yv.1.len) 0 et=C at hc hcap⊢
    rw[yc1]at hcap⊢
    refine D8 (vs:=Y) (J.mono hg hev) hv (by omega) (λj u Z=>?_) (fun β o=> .inr rfl) hcap;rw[f3,<-hc,yi3 (by simpa using(yd.1 Z).1)];simpa using Z
 ·rename_i b g;rw[bind_some]at h;obtain⟨U,hbx,h⟩:=h;rw[bind_some]at h;obtain⟨zv,N,h⟩:=h;rw[aA]at h;obtain⟨hc,h⟩:=h;simp only[yc,yw]at hc;obtain⟨⟨c1,W⟩,c3⟩:=hc;have W:=bN.1 W;have c3:=cO.1 c3;obtain rfl:=ya h;rw[dO];obtain⟨hm,rfl⟩:=box?_some hbx;have he:=(hM.box b U hm).e;cases hx with
  |msw _ _ cap L B hl hb hn hf=>
   obtain⟨o,a0,M,V,O⟩:=(hM.box b U hm).loc;have K:=hl;rw[M]at K;obtain rfl:=ya K;simp only at hb;subst hb;obtain⟨h1,h2,h3,h4,h5⟩:=O;obtain⟨vs,hvs,hcl'⟩:=h4.toList he (box?_own hbx) V;have hcl: ∀j u,vs[j]?=some u->cl w B (a0+j)=some u:=λj u Z=>by rw[hcl' j (yd.1 Z).1];exact Z
   have:=GW (P:=P) (ty:=ty) (xv:=U.row.all) (cap:=cap) (a1:=a0) hM hm M (λh=>V (by rw[<-Sa,<-MW N];exact h)) c1 hE W (by rw[rJ,W]) hvs hcl (by rw[dX];exact hn) (by rw[W];exact hf) H J N c3;rw[dX]at this;exact this
  |mswNil _ _ L hl hb hn=>
   obtain⟨o,a0,M,V,O⟩:=(hM.box b U hm).loc;have K:=hl;rw[M]at K;obtain rfl:=ya K;simp only at hb;subst hb;have hc0:=Lm O.2;have hl0:U.row.all.len=0:=by rw[dX];exact O.1
   exact vZ hM hm hE (by rw[rJ,W]) hl0 hc0 (bL.nilOf hl0 hc0) H J N c3
 ·rename_i b g o' n;rw[bind_some]at h;obtain⟨U,hbx,h⟩:=h;rw[bind_some]at h;obtain⟨xv,hxv,h⟩:=h;rw[bind_some]at h;obtain⟨zv,N,h⟩:=h;rw[aA]at h;obtain⟨hc,h⟩:=h;simp only[yc,yw]at hc;obtain⟨⟨⟨c1,W⟩,c3⟩,c4⟩:=hc;have c4:o'=0\/(U.row.isInts=true/\1≤zv.len):=by
   rw[yc2,yc]at c4;exact c4.imp (λh=>bN.1 h) (λh=>⟨h.1,cO.1 h.2⟩)
  have W:=bN.1 W;have c3:=cO.1 c3;obtain rfl:=ya h;rw[dO];obtain⟨hm,rfl⟩:=box?_some hbx;have he:=(hM.box b U hm).e;have hxl:=SL he hxv;have hxe:=Rb hxv;cases hx with
  |ms _ _ _ _ cap L B hl hb hn hon hf=>
   obtain⟨o,a0,M,V,O⟩:=(hM.box b U hm).loc;have K:=hl;rw[M]at K;obtain rfl:=ya K;simp only at hb;subst hb;obtain⟨h1,h2,h3,h4,h5⟩:=O;obtain⟨vs,hvs,hcl'⟩:=h4.toList he (box?_own hbx) V;have hcl: ∀j u,vs[j]?=some u->cl w B (a0+j)=some u:=λj u Z=>by rw[hcl' j (yd.1 Z).1];exact Z
   have hsub:=zB he hxv hvs;have hw0:=hsub.1;have hia:zv.row.isInts=false->a0+o'*U.row.e=0:=λh=>by
    rw[MW N,RW hxv]at h;rcases c4 with rfl|⟨c4,_⟩
    ·rw[V h,yr3]
    ·rw[h]at c4;cases c4
   have:=GW (P:=P) (ty:=ty) (cap:=cap) (a1:=a0+o'*U.row.e) hM hm M hia c1 hE W (by rw[hxe,W]) hw0
    (fun j u Z => by
     have hj:=(yd.1 Z).1;rw[yn2]at hj;rw[ys1,if_pos (by omega),ye1]at Z
     rw[ye2];exact hcl _ u Z) (by rw[hxl];exact hn) (by rw[W,ye2,<-yt1];exact hf) H J N c3
   rw[hxl]at this;exact this
  |msNil _ _ L hl hb=>
   obtain⟨o,a0,M,V,O⟩:=(hM.box b U hm).loc;have K:=hl;rw[M]at K;obtain rfl:=ya K;simp only at hb;subst hb;have hc0:=Fa hxv O.2;exact vZ hM hm hE (by rw[hxe,W]) hxl hc0 (bL.nilOf hxl hc0) H J N c3
  |msZ _ _ _ B oo L hl hb ho hon=>
   have hB:eT G b U B:=⟨L,hl,hb⟩
   obtain⟨hi,hz1⟩:=c4.resolve_left (by omega);have hvx:bL G w xv []:=bL.nilOf hxl (Fa hxv (by revert hi;cases U.row<;>intro h<;>first|rfl|cases h));obtain⟨hz,hze,_,hzl⟩:=Dc hM.lab N hvx J;refine HU (row':=zv.row) (olds:= []) (s:=s) (base:=some ⟨B,oo,none⟩) (len:=0) (cap:=0) hM (yd.1 hm).1 (λg hg=>hM.gens b U g hm hg) hE
    (run_firstCells_some w.drew i.size 0 ⟨B,oo,none⟩ 0 0 [] (by simp) (λj u Z=>by simp at Z)) (by simp) H (by omega) (by omega) (by rw[lP,hze,hxe,W]) (by rw[f9];omega) (Bold:=none) (λ_ _ h=>by cases h) ?_
   exact .plain (hM.gens b U _ hm (yy2 _)) (kU zv) (by rw[kN];simpa using hz)
 ·simp at h
end
end Go.Ab
end
section
namespace Go.Ab
variable [cF]
def flat(us:List Value):List Value:=us.flatMap λu=>u.cells.toList
theorem iU(u:Value)(us:List Value):flat (u::us)=u.cells.toList++flat us:=by simp[flat]
theorem iC{e:Nat}: ∀{us:List Value},(∀u∈us,u.cells.size=e)->(flat us).length=us.length*e
 | [],_=>by simp[flat]
 |u::us,h=>by
  rw[iU,yi,iC (λx H=>h x (yj _ H)),yd2,h u (yn ..),yz,yt1];omega
theorem rG{e:Nat}: ∀{us:List Value} {i c:Nat} {u:Value},(∀u∈us,u.cells.size=e)->us[i]?=some u->c<e->(flat us)[i*e+c]?=u.cells.toList[c]?
 | [],i,c,u,h,H,hc=>by simp at H
 |v::us,0,c,u,h,H,hc=>by
  simp at H;subst H;rw[iU,yr3,yc1,yq (by rw[yd2,h v (yn ..)];exact hc)]
 |v::us,i+1,c,u,h,H,hc=>by
  have J:=h v (yn ..);rw[iU,yx (by rw[yd2,J,yt1];omega),yd2,J,show(i+1)*e+c-e=i*e+c by rw[yt1];omega];exact rG (λx K=>h x (yj _ K)) (by simpa using H) hc
theorem La{us:List Value}{x:Value}(h:x∈flat us): ∃u∈us,x∈u.cells.toList:=List.mem_flatMap.1 h
theorem wN: ∀{xs a b:List Value} {k:Nat},bF (a++b) (a.length+k) xs=a++bF b k xs
 | [],a,b,k=>rfl
 |x::xs,a,b,k=>by
  simp only[bF];rw[ys3 _ _ (by omega),yx3,ye2];exact wN
theorem yQ: ∀{xs a b:List Value} {p:List Value},xs.length=a.length->bF (p++(a++b)) p.length xs=p++(xs++b)
 | [],a,b,p,h=>by
  have:=yu h.symm;subst this;simp[bF]
 |x::xs,[],b,p,h=>by simp at h
 |x::xs,y::a,b,p,h=>by
  simp only[bF];rw[ys3 _ _ (by omega),yd4];simp only[yk3,List.set_cons_zero];have:=yQ (xs:=xs) (a:=a) (b:=b) (p:=p++ [x]) (by simpa using h);simpa using this
theorem Ls{e:Nat}: ∀{us:List Value} {i:Nat} {v:Value},(∀u∈us,u.cells.size=e)->v.cells.size=e->i<us.length->bF (flat us) (i*e) v.cells.toList=flat (us.set i v)
 | [],i,v,h,J,H=>by simp at H
 |u::us,0,v,h,J,H=>by
  have:=yQ (xs:=v.cells.toList) (a:=u.cells.toList) (b:=flat us) (p:= []) (by simp[J,h u (yn ..)]);rw[List.set_cons_zero,iU,iU,yr3];exact this
 |u::us,i+1,v,h,J,H=>by
  have K:=h u (yn ..)
  rw[List.set_cons_succ,iU,iU,show(i+1)*e=u.cells.toList.length+i*e by rw[yd2,K,yt1];omega,wN,
   Ls (λx M=>h x (yj _ M)) J (by simpa using H)]
def fW(us:List Value):List (Nat×Value)->List Value
 | []=>us
 |(i,v)::r=>fW (us.set i v) r
theorem wJ: ∀{qs:List (Nat×Value)} {us:List Value},(fW us qs).length=us.length
 | [],us=>rfl
 |(i,v)::r,us=>by rw[fW,wJ];simp
theorem qA{e:Nat}: ∀{qs:List (Nat×Value)} {us:List Value},(∀u∈us,u.cells.size=e)->(∀q∈qs,q.2.cells.size=e)->∀u∈fW us qs,u.cells.size=e
 | [],us,h,_=>h
 |(i,v)::r,us,h,K=>by
  refine qA (qs:=r) (us:=us.set i v) (λu M=>?_) (λq J=>K q (yj _ J));rcases yi2 M with H|H
  ·exact h u H
  ·rw[H];exact K (i,v) (yn ..)
theorem Cu{s:Nat}: ∀{qs:List (Nat×Value)} {us:List Value} {c:Array Value},c.toList=flat us->(∀u∈us,u.cells.size=s)->(∀q∈qs,q.2.cells.size=s/\q.1<us.length)->
  ∃V,Instr.fill (λi=>some (i*s,s)) c qs=some V/\V.toList=flat (fW us qs)
 | [],us,c,hc,_,_=>⟨c,rfl,hc⟩
 |(i,v)::r,us,c,hc,K,U=>by
  obtain⟨J,M⟩:=U (i,v) (yn ..);simp only at J M;have H:(v.cells.zipIdx.foldl (λcs (c,j)=>cs.setIfInBounds (i*s+j) c) c).toList=bF c.toList (i*s) v.cells.toList:=by
   have:=CV v.cells.toList (i*s) 0 c;rw[yw1]at this;rw[<-this,<-Array.foldl_toList];simp
  have O:c.size=us.length*s:=by rw[<-iC K,<-hc];simp
  have W:i*s+v.cells.size≤c.size:=by
   rw[O,J]
   calc i*s+s=(i+1)*s:=by rw[yt1];omega
    _≤us.length*s:=ym2 _ M
  simp only[Instr.fill];rw[if_neg (by simp only[yc2,decide_eq_true_eq];omega)];refine Cu (us:=us.set i v) (by rw[H,hc,Ls K J M]) (λu h=>?_) (λq h=>⟨(U q (yj _ h)).1,by simpa using(U q (yj _ h)).2⟩);rcases yi2 h with N|N
  ·exact K u N
  ·rw[N];exact J
theorem jW(z:Array Value)(K:1≤z.size): ∀n,((Array.range (n*z.size)).map (z[· %z.size]!)).toList=(List.replicate n z.toList).flatten
 |0=>by simp
 |n+1=>by
  have J:=jW z K n;simp only[Array.toList_map,Array.toList_range]at J⊢
  rw[yt1,Nat.one_mul,List.range_add,ye4,J,List.replicate_succ',List.flatten_append];congr 1;simp only[List.flatten_cons,List.flatten_nil,yo1,List.map_map];apply List.ext_getElem
  ·simp
  ·intro j H h2;simp at H;have:(n*z.size+j)%z.size=j:=by
    rw[Nat.add_comm,Nat.add_mul_mod_self_right];exact Nat.mod_eq_of_lt H
   simp[this,H]
theorem fQ(n:Nat)(z:Value):flat (List.replicate n z)=(List.replicate n z.cells.toList).flatten:=by
 induction n with
 |zero=>rfl
 |succ n H=>rw[yy3,iU,H,yy3,List.flatten_cons]
theorem Ug{G:Gh}(H: ∀B o,G.prot false B o->G.prot true B o){β β':Bool}(h:β'=false->β=false){w:World}{p:PV}{v:Value}(K:PR w (G.prot β) p v):PR w (G.prot β') p v:=by
 refine K.mono (λB o J=>?_) (λ_ _ _=>rfl);cases β' with
 |false=>rw[h rfl]at J;exact J
 |true=>cases β with
  |true=>exact J
  |false=>exact H _ _ J
section
variable {P:Program}
theorem HL{G:Gh}{w:World}{mem:aK}{boxed:Bool}{rs:Nat}{v:aL}{vs:List Value}{out:dI}{t:TypeId}(hM:aH G w mem)(O:mem[rs]?=some none)(h:vH boxed rs v=some out)
  (V:bL G w v vs) (Y:1≤v.e):
  ∃N,c5 G N/\Ev G w (w.alloc (.cells vs.toArray t))/\aH N (w.alloc (.cells vs.toArray t)) (aN mem out.wr)/\VR N (w.alloc (.cells vs.toArray t)) out.v (.slice (some ⟨w.heap.size,0,none⟩) v.len v.len)/\out.push= []:=by
 have M: ∀j u,vs[j]?=some u->cl (w.alloc (.cells vs.toArray t)) w.heap.size j=some u:=λj u hu=>by
  rw[kP];simpa using hu
 unfold vH at h;cases boxed with
 |true=>
  simp only[yg]at h;obtain rfl:=ya h;obtain⟨N,rfl,hg,H,J,hl⟩:=FZ (row:=v.row) (vs:=vs) (rest:= #[]) (t:=t) hM O (by rw[lP];exact Y) (kU v) (by rw[kN];exact V);rw[Array.append_empty]at H J;refine⟨_,hg,H,J,?_,rfl⟩;have Z:VR (G.put rs 0 ⟨some w.heap.size,v.row.e,v.row.len,0⟩) (w.alloc (.cells vs.toArray t)) (.msw rs 0) (.slice (some ⟨w.heap.size,0,none⟩) v.row.len v.len):=by
   refine .msw rs 0 v.len _ w.heap.size hl rfl (by simp only[f9];exact ya1 _) (λj W=>?_);simp only[lP]at W;have U:j<vs.length:=by rw[V.1];exact(by rw[yc1]at W;exact W)
   rw[M j _ (yf U)];rfl
  rw[f9]at Z⊢;exact Z
 |false=>
  simp only[yh]at h;obtain⟨a,ha,rfl⟩:=ye.1 h;have H:=Ev.alloc G w (.cells vs.toArray t) hM.away;have J:=hM.new_tree H (λB hB=>fH hB) (by simp);have K:=c5.frz G (λB _=>B=w.heap.size) (λB _ h=>by subst h;exact hM.own _ (ya1 _));refine⟨_,K,H,J,?_,rfl⟩;exact D8 (vs:=vs) (V.mono K H) ha Y M (fun β o=> .inr rfl) (ya1 _)
theorem sB{G:Gh}{w:World}: ∀{vs:List AV} {us:List Value},iW G w vs us->iW G w (iJ vs) (flat us)
 | [],us,h=>by
  have:=yu h.1.symm;subst this;exact⟨rfl,λj y H=>by simp[iJ]at H⟩
 |v::vs,[],h=>by simp[iW]at h
 |v::vs,u::us,h=>by
  rw[iJ,iU];refine iW.append (h.2 0 v rfl).cells (sB ⟨by simpa using h.1,λj y H=>by simpa using h.2 (j+1) y (by simpa using H)⟩)
theorem iW.get{G:Gh}{w:World}{as:List AV}{vs:List Value}(h:iW G w as vs){j:Nat}{a:AV}(J:as[j]?=some a): ∃u,vs[j]?=some u/\VR G w a u:=by
 have H:j<vs.length:=by rw[<-h.1];exact(yd.1 J).1
 have:=h.2 j a J;rw[ym,yf H]at this;exact⟨_,yf H,this⟩
theorem A6{k:IntKind}: ∀{vs:List AV} {xs:List Int},fM k vs=some xs->xs.length=vs.length/\∀(j:Nat) (x:Int),xs[j]?=some x->vs[j]?=some (.lit (.int k x))
 | [],xs,h=>by simp[fM]at h;subst h;exact⟨rfl,λj x H=>by simp at H⟩
 |v::vs,xs,h=>by
  unfold fM at h;split at h
  ·simp_all
  ·rename_i O x r K;obtain⟨rfl,rfl⟩:=yb1 K;cases J:iK k O with
   |false=>rw[J]at h;simp at h
   |true=>
    rw[J]at h;simp only[yg]at h;obtain⟨ys,M,rfl⟩:=ye.1 h;rw[kS]at J;subst J;obtain⟨N,U⟩:=A6 M;refine⟨by simp[N],λj x H=>?_⟩;cases j with
    |zero=>simp at H;subst H;rfl
    |succ j=>simpa using U j x (by simpa using H)
  ·simp at h
theorem Jv{G:Gh}{w:World}{mem:aK}{vars:Bool}{t:TypeId}{vs:List AV}{us:List Value}{r:aL×List Nat}{s:Nat}(hM:aH G w mem)(h:oL P vars mem t vs=some r)(hL:iW G w vs us)
  (W: ∀u∈us,u.cells.size=s) (hs:1≤s) (M:r.1.e=s):bL (G.frz (aW G w mem r.2)) w r.1 (flat us)/\r.1.len=vs.length:=by
 have Z:=iC W;unfold oL at h;split at h
 ·rename_i k hk;obtain⟨xs,hxs,rfl⟩:=ye.1 h;obtain⟨U,hh⟩:=A6 hxs;simp only[aL.e]at M;subst M;have V: ∀(i:Nat) (x:Int),xs[i]?=some x->(flat us)[i]?=some (.int k x):=by
   intro i x J;obtain⟨u,K,H⟩:=hL.get (hh i x J);obtain rfl:=H.lit_inv;have:=rG W K (c:=0) (by omega);rw[yt3,yw1]at this;exact this
  refine⟨⟨by simp only[aL.len,aL.e];rw[Z,U,hL.1],λu K=>?_,V⟩,by simpa[aL.len]using U⟩;obtain⟨j,hj,rfl⟩:=yx1 K;have hj2:j<xs.length:=by rw[U,hL.1];omega
  have:=V j _ (yf hj2);rw[yf hj]at this;rw[ya this];rfl
 ·rw[bind_some]at h;obtain⟨e,he,h⟩:=h;cases vars with
  |true=>
   simp only[yg]at h;rw[aA]at h;obtain⟨hg,h⟩:=h;simp only[yc]at hg;obtain rfl:=ya h;simp only[aL.e]at M;subst M;have hcs:=sB hL;have U:(iJ vs).length=vs.length*e:=by rw[hcs.1,Z,hL.1]
   have hcb:aR e (iJ vs).length=vs.length:=by rw[U,iE (n:=0) hs]
   exact⟨(bL.ofLRs hcs hg.2 (by rw[hcb];exact U)).mono (c5.frz G _ hM.inBoxes) (Ev.refl G w),hcb⟩
  |false=>
   simp only[yh]at h;obtain⟨q,hq,rfl⟩:=ye.1 h;simp only[aL.e]at M;subst M;obtain⟨U,hh⟩:=r9 hq;have hlab: ∀B o,(G.frz (aW G w mem q.2.2)).prot false B o->(G.frz (aW G w mem q.2.2)).prot true B o:=λB o h=>h.imp (hM.lab B o) id;have V: ∀(i:Nat) (x:PV),q.2.1[i]?=some x->∃v u q1,vs[i]?=some v/\us[i]?=some u/\VR G w v u/\vL P mem t v=some q1/\q1.2.1=x/\(∀b∈q1.2.2,b∈q.2.2)/\(q.1=false->q1.1=false):=by
    intro i x J;have hi:i<vs.length:=by rw[<-U];exact(yd.1 J).1
    obtain⟨q1,h1,h2,h3,h4⟩:=hh i _ (yf hi);obtain⟨u,K,H⟩:=hL.get (yf hi);rw[J]at h2;exact⟨_,u,q1,yf hi,K,H,h1,(ya h2).symm,h3,h4⟩
   have hsz: ∀(i:Nat) (x:PV),q.2.1[i]?=some x->x.cells.length=e:=by
    intro i x J;obtain⟨v,u,q1,hv,K,H,h1,rfl,h3,h4⟩:=V i x J;obtain⟨ql,_⟩:=rM hM h1 H;rw[ql,H.cells.1,yd2];exact W u (yk K)
   have O: ∀(i:Nat) (x:PV) (c:Nat) (y:PV),q.2.1[i]?=some x->x.cells[c]?=some y->∃u,(flat us)[i*e+c]?=some u/\PR w ((G.frz (aW G w mem q.2.2)).prot q.1) y u/\u.oneCell'=true:=by
    intro i x c y J hy;have hce:c<e:=by rw[<-hsz i x J];exact(yd.1 hy).1
    obtain⟨v,u,q1,hv,K,H,h1,rfl,h3,h4⟩:=V i x J;obtain⟨ql,qq⟩:=rM hM h1 H;obtain⟨u',Y,hpr,N⟩:=qq c y hy;refine⟨u',by rw[rG W K hce];exact Y,Ug hlab h4 (hpr.mono (λB o hb=>hb.imp id (λhi=>hi.mono h3)) (λ_ _ _=>rfl)),N⟩
   refine⟨⟨by simp only[aL.len,aL.e];rw[Z,U,hL.1],λu K=>?_,λx J=>?_,λi x c y J hy=>?_⟩,by simpa[aL.len]using U⟩
   ·obtain⟨j,hj,rfl⟩:=yx1 K;have hj':=hj;rw[Z]at hj';have hi:j/e<us.length:=Nat.div_lt_of_lt_mul (by rw[yx2];exact hj');have hc:j%e<e:=Nat.mod_lt _ hs;have hi2:j/e<q.2.1.length:=by rw[U,hL.1];exact hi
    have J:=yf hi2;have hy:j%e<(q.2.1[j/e]).cells.length:=by rw[hsz _ _ J];exact hc
    obtain⟨u',Y,_,N⟩:=O _ _ _ _ J (yf hy);have hjj:j/e*e+j%e=j:=by rw[yx2];exact Nat.div_add_mod j e
    rw[hjj,yf hj]at Y;rw[ya Y];exact N
   ·obtain⟨j,hj,rfl⟩:=yx1 J;exact hsz j _ (yf hj)
   ·obtain⟨u,K,hpr,_⟩:=O i x c y J hy;exact⟨u,K,hpr⟩
theorem A1{G:Gh}{w:World}: ∀{ps:List (Nat×AV)} {qs:List (Nat×Value)} {vs:List AV} {us:List Value},iW G w vs us->Uc G w ps qs->iW G w (nZ vs ps) (fW us qs)
 | [],qs,vs,us,h,H=>by
  have:=yu H.1.symm;subst this;exact h
 |(i,v)::r,[],vs,us,h,H=>by simp[Uc]at H
 |(i,v)::r,(i',u)::qs,vs,us,h,H=>by
  obtain⟨u',K,M⟩:=H.2 0 (i,v) rfl;simp only[ye3,Option.some.injEq,Prod.mk.injEq]at K;obtain⟨rfl,rfl⟩:=K;exact A1 (ps:=r) (qs:=qs) (h.set M) ⟨by simpa using H.1,λj p J=>by simpa using H.2 (j+1) p (by simpa using J)⟩
theorem qG: ∀{ps:List (Nat×AV)} {vs:List AV},(nZ vs ps).length=vs.length
 | [],vs=>rfl
 |(i,v)::r,vs=>by rw[nZ,qG];simp
theorem w8{e:Nat}: ∀{vs:List AV},nG e vs=true->∀v∈vs,v.cells.length=e
 | [],_=>by simp
 |v::vs,h=>by
  simp only[nG,yc]at h;intro x H;rcases yj1.1 H with rfl|H
  ·exact bN.1 h.1
  ·exact w8 h.2 x H
theorem vW{n:Nat}: ∀{ps:List (Nat×AV)},pV n ps=true->∀p∈ps,p.1<n
 | [],_=>by simp
 |(i,v)::r,h=>by
  simp only[pV,yc]at h;intro x H;rcases yj1.1 H with rfl|H
  ·exact cO.1 h.1
  ·exact vW h.2 x H
end
end Go.Ab
end
section
namespace Go.Ab
variable [cF]
theorem vK: ∀(l:List Int) (r:ByteArray),l.foldl (λr n=>r.push (UInt8.ofNat n.toNat)) r=⟨r.data++(l.map λn=>UInt8.ofNat n.toNat).toArray⟩
 | [],r=>by simp
 |b::l,r=>by
  simp only[List.foldl_cons];rw[vK l];simp[ByteArray.push]
theorem Jz(xs:List Int):xs.foldl (λr n=>r.push (UInt8.ofNat n.toNat)) ByteArray.empty=qW xs:=by
 rw[vK];have H:ByteArray.empty.data= #[]:=rfl;simp[qW,H]
section
variable {P:Program}
theorem Fr{G:Gh}{w:World}{mem:aK}{boxed vars:Bool}{t O:TypeId}{rs len s:Nat}{z:AV}{ps:List (Nat×AV)}{qs:Array (Nat×Value)}{wv:aL×List Nat}{o:dI}(hM:aH G w mem)(hrs:mem[rs]?=some none)
  (K:elemOf? P t=some O) (hz:zero? P O=some z) (hs:jR P O=some s) (hg:(pV len ps&&Nat.ble len 4096&&Nat.ble 1 s&&Nat.ble s 4096&&nG s (z::ps.map (·.2)))=true)
  (hv:oL P vars mem O (nZ (List.replicate len z) ps)=some wv) (U:Nat.beq wv.1.e s=true) (ho:vH (boxed||Nat.beq len 0) rs wv.1=some o) (hp:Uc G w ps qs.toList):
  ∃G' w' cv,(Instr.buildSlice t len qs).run P w= .ok cv w'/\VR G' w' o.v cv/\c5 G G'/\Ev G w w'/\aH G' w' (({v:=o.v,rd:=wv.2,wr:=cA mem wv.2++o.wr}:dI).apply mem):=by
 simp only[yc]at hg;obtain⟨⟨⟨⟨g1,g2⟩,g3⟩,g4⟩,g5⟩:=hg;have g2:=cO.1 g2;have g3:=cO.1 g3;have g4:=cO.1 g4;have U:=bN.1 U;have hu:P.underlying t=some (.slice O):=by
  unfold elemOf? at K;split at K
  ·obtain rfl:=ya K;assumption
  ·simp at K
 obtain⟨i,H,hi,hzv,hov⟩:=lQ hz;have J:i.size=s:=by unfold jR at hs;rw[hi]at hs;simpa using hs
 have hzr:VR G w z H:=mR hov;have Z:=w8 g5;have V:H.cells.size=s:=by rw[<-Z z (yn ..)];simpa using hzr.cells.1.symm
 have hL0:iW G w (List.replicate len z) (List.replicate len H):=by
  refine⟨by simp,λj y hy=>?_⟩;obtain⟨hj,rfl⟩:j<len/\z=y:=by
   have W:=(yd.1 hy)
   obtain⟨W,h2⟩:=W;simp at W h2;exact⟨W,h2⟩
  rw[ym,yu1,if_pos hj];exact hzr
 have hL:=A1 hL0 hp;have hq: ∀q∈qs.toList,q.2.cells.size=s/\q.1<(List.replicate len H).length:=by
  intro q hq;obtain⟨j,hj,rfl⟩:=yx1 hq;have N:j<ps.length:=by rw[hp.1];exact hj
  obtain⟨v,hv,hvr⟩:=hp.2 j _ (yf N);rw[yf hj]at hv;have hqe:=ya hv;rw[hqe];refine⟨?_,by simp only[yj3];exact vW g1 _ (yk2 N)⟩;rw[<-Z (ps[j].2) (yj _ (yh3.2 ⟨_,yk2 N,rfl⟩))];simpa using hvr.cells.1.symm
 have hz1: ∀u∈List.replicate len H,u.cells.size=s:=λu hu=>by rw[(yw2.1 hu).2];exact V
 have hus:=qA hz1 (λq h=>(hq q h).1);obtain⟨M,hvl⟩:=Jv hM hv hL hus g3 U;have hM1:=hM.freeze wv.2;have Y:=c5.frz G (aW G w mem wv.2) hM.inBoxes;have hrs1:(aN mem (cA mem wv.2))[rs]?=some none:=by
  rw[(eB mem wv.2 mem rs rfl).2.1 (.inr (λy hy=>by rw[hrs]at hy;cases hy))];exact hrs
 obtain⟨G',W,h2,h3,h4,h5⟩:=HL (t:=O) hM1 hrs1 ho M (by omega);have hlen:wv.1.len=len:=by rw[hvl,qG];simp
 rw[hlen]at h4;refine⟨G',_,_,?_,h4,Y.trans W,?_,?_⟩
 ·by_cases h0:len=0
  ·subst h0;have hq0:qs.toList= []:=by
    cases hh:qs.toList with
    |nil=>rfl
    |cons q r=>have:=(hq q (by rw[hh];exact yn ..)).2;simp at this
   rw[hq0];simp[Instr.buildSlice,run_underlying hu,sizeOf,typeInfo,hi,hq0,Instr.fill,newRow,fW,flat,Array.range_zero']
  ·have hlt:len*s≤16777216:=yq2 (Nat.mul_le_mul g2 g4) (by decide);have hpos:0<len*s:=Nat.mul_pos (by omega) (by omega)
   have hc0:((Array.range (len*i.size)).map (H.cells[· %H.cells.size]!)).toList=flat (List.replicate len H):=by
    rw[J,fQ];have:=jW H.cells (by omega) len;rw[V]at this;rw[V];exact this
   obtain⟨c',hf,hc'⟩:=Cu hc0 hz1 hq;have hcc:c'=(flat (fW (List.replicate len H) qs.toList)).toArray:=by rw[<-hc']
   rw[<-hcc];exact run_buildSlice w t O len qs c' i H hu hi hzv (by rw[J];omega) (by rw[J];omega) (by rw[J]at hf⊢;exact hf)
 ·exact(Ev.refl G w).trans Y h2
 ·simp only[dI.apply,yo1];rw[p7];exact h3
theorem w5{G:Gh}{w:World}{mem:aK}{boxed:Bool}{t M:TypeId}{rs n s:Nat}{J:Value}{v:aL}{i:TypeInfo}{out:dI}{kl Z:IntKind}(hM:aH G w mem)(O:mem[rs]?=some none)
  (hu:P.underlying t=some (.slice M)) (hi:P.info? M=some i) (hz:i.zero=some J) (V:i.size=s) (hs1:1≤s) (W:i.bytes≤4096) (hn:n≤bJ) (Y:J.cells.size=s)
  (hv:bL G w v (flat (List.replicate n J))) (U:v.len=n) (hve:v.e=s) (ho:vH boxed rs v=some out):
  ∃K N cv,(Instr.makeSlice t (.int kl (n:Int)) (.int Z (n:Int))).run P w= .ok cv N/\VR K N out.v cv/\c5 G K/\Ev G w N/\aH K N (out.apply mem):=by
 obtain⟨K,h1,h2,h3,h4,h5⟩:=HL (t:=M) hM O ho hv (by omega);have hfit:=yR hn W
 have H:=run_make (P:=P) w t M i J hu hi hz kl Z n n (by omega) (Int.le_refl _) (by
   have h:((n*i.bytes:Nat):Int)≤281474976710656:=by omega
   rw[Int.natCast_mul,Int.mul_comm]at h;exact h) (by unfold bJ at hn;omega)
 simp only[yy]at H;have hc:madeCells J.cells (n*i.size)=(flat (List.replicate n J)).toArray:=by
  have:=jW J.cells (by omega) n;rw[<-yv2 (xs:=madeCells J.cells (n*i.size)),fQ,<-this,V];simp only[madeCells,Y]
 rw[hc]at H;rw[U]at h4;refine⟨K,_,_,H,h4,h1,h2,?_⟩;simp only[dI.apply,h5,yo1];exact h3
theorem Jm{G:Gh}{w:World}{mem:aK}{e M dst:TypeId}{x:AV}{xs:List Int}{rd:List Nat}{cv:Value}(hM:aH G w mem)(U:P.underlying M=some (.slice e))(he:P.underlying e=some (.int .u8))(hd:P.underlying dst=some .string)
  (hv:view P e mem x=some (.ints .u8 xs,rd)) (ht:jR P e=some 1) (N:z8 P M x=true) (Z:VR G w x cv):(convert M dst cv).run P w= .ok (.string (qW xs)) w:=by
 obtain⟨K,hS,hV⟩:=A5 hM hv Z ht N;have J:K=xs.map (Value.int .u8):=by
  obtain⟨Y,h2,h3⟩:=hV;simp only[aL.len,aL.e,yt3]at Y;refine List.ext_getElem (by simp[Y]) (λj W hj2=>?_);have hj:j<xs.length:=by omega
  have:=h3 j _ (yf hj);rw[yf W]at this;rw[ya this];simp
 have O:=hS.len w;have H:=hS.cells;have hnl:=hS.newsLen;have V: ∃a c,cv= .slice a xs.length c:=by
  cases cv<;>simp[Builtin.lenOf]at O
  ·cases Z with
   |lit v h=>
    unfold z8 at N;rw[U]at N;simp at N
   |imm β p v h hs=>cases h;simp[PV.isSl]at hs
   |dead v Y h2=>simp[view]at hv
  ·exact⟨_,_,by rw[O];rfl⟩
 obtain⟨a,c,rfl⟩:=V;rw[run_convert_bytes_string w M dst e a xs.length c U he hd];cases a with
 |none=>
  simp[Builtin.firstCells]at H;have:K= []:=by
   cases K with
   |nil=>rfl
   |cons=>simp at H
  rw[this]at J;have:xs= []:=List.map_eq_nil_iff.1 J.symm;subst this;rfl
 |some a=>
  simp only[Builtin.firstCells,aL.e,aL.len,yt3]at H;rw[run_bytesToString w a _ c xs (by rw[<-J];exact H),Jz]
end
end Go.Ab
end
section
namespace Go.Ab
variable [cF]
theorem Uf{vs:Array Value}(h:vs.size=1): ∃x,vs= #[x]:=by
 obtain⟨l⟩:=vs
 match l,h with
 | [x],_=>exact⟨x,rfl⟩
theorem Ux{vs:Array Value}(h:vs.size=2): ∃x y,vs= #[x,y]:=by
 obtain⟨l⟩:=vs
 match l,h with
 | [x,y],_=>exact⟨x,y,rfl⟩
section
variable {P:Program}
def qF(P:Program)(G:Gh)(w:World)(mem:aK)(o:Oper)(a:Act)(out:dI):Prop:=
 ∀(K:Act->World->Prop) (Q:Exit->Act->World->Prop),(∀G' w' cv,VR G' w' out.v cv->c5 G G'->Ev G w w'->aH G' w' (out.apply mem)->K (a.put o.dst cv) w')->o.wp P a w K Q
def Nv(P:Program)(G:Gh)(w:World)(mem:aK)(g:FuncId)(args:Array Value)(out:dI):Prop:=
 (callFunc g args).run P w= .ok (.enter g args) w/\
 Calls P g args w λe w'=> ∃G' cv,e= .returned cv/\VR G' w' out.v cv/\c5 G G'/\Ev G w w'/\aH G' w' (out.apply mem)
variable {G:Gh} {w:World} {mem:aK} {o:Oper} {a:Act} {out:dI}
theorem lC.opW(h:lC P G w mem o a out):qF P G w mem o a out:=by
 intro K Q hK;obtain⟨U,O,nx,cv,J,M,N,V,H,hM⟩:=h;unfold Oper.wp;rw[J];rcases M with rfl|⟨rfl,rfl⟩
 ·exact hK U O cv N V H hM
 ·exact hK U O undef N V H hM
theorem qF.value{s:Sem Value}(U:execOp a.eval o=(do pure (Next.value (<-s))))
  (h: ∃K H cv,s.run P w= .ok cv H/\VR K H out.v cv/\c5 G K/\Ev G w H/\aH K H (out.apply mem)):qF P G w mem o a out:=by
 obtain⟨K,H,cv,J,N,O,M,hM⟩:=h;refine lC.opW ⟨K,H,.value cv,cv,?_,.inl rfl,N,O,M,hM⟩;rw[U];simp only[Sem.run_bind,J,Result.andThen_ok,Sem.run_pure]
theorem qF.still{s:Sem Value}(hM:aH G w mem)(N:execOp a.eval o=(do pure (Next.value (<-s)))){cv:Value}(M:out.wr= [])(K:out.push= [])
  (H:s.run P w= .ok cv w) (J:VR G w out.v cv):qF P G w mem o a out:=
 qF.value N ⟨G,w,cv,H,J,c5.refl G,Ev.refl G w,by simp only[dI.apply,M,K,aN,yo1];exact hM⟩
theorem qF.plain(hM:aH G w mem){cv:Value}(M:execOp a.eval o=pure (Next.value cv))(K:out.wr= [])(J:out.push= [])(H:VR G w out.v cv):qF P G w mem o a out:=
 lC.opW ⟨G,w,.value cv,cv,by rw[M];simp,.inl rfl,H,c5.refl G,Ev.refl G w,by simp only[dI.apply,K,J,aN,yo1];exact hM⟩
theorem nW{ρ:Operand->Option AV}(K:Rw G w ρ a){x:Option Operand}{r:Option Int}(h:BQ ρ x=some r):o4 r (x.map a.eval):=by
 cases x with
 |none=>simp[BQ]at h;subst h;exact trivial
 |some x=>
  simp only[BQ]at h;rw[bind_some]at h;obtain⟨v,J,h⟩:=h;unfold NA at h;split at h
  ·simp at*
  ·rename_i k n H;obtain rfl:=ya H;obtain rfl:=ya h;have:=(K x _ J).lit_inv;exact⟨k,by simp[this]⟩
  ·simp at h
theorem oR{t H:TypeId}(h:elemOf? P t=some H):P.underlying t=some (.slice H):=by
 unfold elemOf? at h;split at h
 ·obtain rfl:=ya h;assumption
 ·simp at h
theorem oT{l:List Nat}(h:fZ l=true):l= []:=by cases l<;>simp_all[fZ]
theorem NY{k:IntKind}{z:AV}{K:Value}{J:List Int}{n:Nat}(h:fM k [z]=some J)(N:VR G w z K):bL G w (.ints k (List.replicate n (J.headD 0))) (flat (List.replicate n K))/\K.cells.size=1:=by
 obtain⟨V,U⟩:=A6 h;obtain⟨x,rfl⟩: ∃x,J= [x]:=by
  match J,V with
  | [x],_=>exact⟨x,rfl⟩
 have:=U 0 x rfl;simp at this;subst this;obtain rfl:=N.lit_inv;have hf:flat (List.replicate n (Value.int k x))=List.replicate n (.int k x):=by
  rw[fQ];have hc:(Value.int k x).cells.toList= [.int k x]:=rfl;rw[hc]
  induction n with
  |zero=>rfl
  |succ n O=>rw[yy3,List.flatten_cons,O,yy3];rfl
 rw[hf];refine⟨⟨by simp[aL.len,aL.e],λu M=>by rw[(yw2.1 M).2];rfl,λi y H=>?_⟩,rfl⟩;simp only[List.headD_cons]at H;rw[yu1]at H⊢
 split at H
 ·rw[if_pos (by assumption)];rw[<-ya H]
 ·simp at H
theorem Je{t:TypeId}{z:AV}{V:Value}{q:Bool×PV×List Nat}{n e:Nat}(hM:aH G w mem)(h:vL P mem t z=some q)(hz:VR G w z V)(Y:z.cells.length=e)(h1:1≤e)(hq:q.2.2= []):
  bL G w (.pvs q.1 e (List.replicate n q.2.1)) (flat (List.replicate n V))/\V.cells.size=e:=by
 obtain⟨ql,qq⟩:=rM hM h hz;have N:V.cells.size=e:=by rw[<-Y];simpa using hz.cells.1.symm
 have K: ∀u∈List.replicate n V,u.cells.size=e:=λu H=>by rw[(yw2.1 H).2];exact N
 have hfl:=iC K;have O: ∀(i:Nat) (x:PV) (c:Nat) (y:PV),(List.replicate n q.2.1)[i]?=some x->x.cells[c]?=some y->∃u,(flat (List.replicate n V))[i*e+c]?=some u/\PR w (G.prot q.1) y u/\u.oneCell'=true:=by
  intro i x c y M Z;rw[yu1]at M;split at M
  ·rename_i hi;obtain rfl:=ya M;have hce:c<e:=by rw[<-Y,<-ql];exact(yd.1 Z).1
   obtain⟨u,H,U,J⟩:=qq c y Z;refine⟨u,by rw[rG K (u:=V) (by rw[yu1,if_pos hi]) hce];exact H,U.mono (λB o W=>?_) (λ_ _ _=>rfl),J⟩;rcases W with W|⟨b,W,_⟩
   ·exact W
   ·rw[hq]at W;simp at W
  ·simp at M
 refine⟨⟨by simp only[aL.len,aL.e];rw[hfl];simp,λu H=>?_,λx M=>by rw[(yw2.1 M).2,ql,Y],λi x c y M Z=>?_⟩,N⟩
 ·obtain⟨v,hv,H⟩:=La H;rw[(yw2.1 hv).2]at H;obtain⟨j,hj,rfl⟩:=yx1 H;have hj2:j<q.2.1.cells.length:=by rw[ql,Y,<-N];simpa using hj
  obtain⟨u,H,_,J⟩:=qq j _ (yf hj2);rw[yf hj]at H;rw[ya H];exact J
 ·obtain⟨u,H,U,_⟩:=O i x c y M Z;exact⟨u,H,U⟩
theorem OG{t tx ty:TypeId}{rs:Nat}{n:Int}{kn:IntKind}(hM:aH G w mem)(Z:mem[rs]?=some none)(h:D9 P t tx mem rs n=some out):
  ∃V W cv,(Builtin.append_ #[t,tx] ty #[.slice none 0 0,.int kn n]).run P w= .ok cv W/\VR V W out.v cv/\c5 G V/\Ev G w W/\aH V W (out.apply mem):=by
 unfold D9 at h;split at h
 ·rename_i kx hkx;rw[bind_some]at h;obtain⟨M,het,h⟩:=h;rw[bind_some]at h;obtain⟨z,hz,h⟩:=h;split at h
  ·rw[bind_some]at h;obtain⟨q,hq,h⟩:=h;rw[bind_some]at h;obtain⟨e,he,h⟩:=h;rw[bind_some]at h;obtain⟨bytes,N,h⟩:=h;rw[aA]at h;obtain⟨hg,h⟩:=h;simp only[yc,decide_eq_true_eq]at hg;obtain⟨⟨g0,U⟩,⟨⟨Y,g2⟩,g3⟩,g4⟩:=hg;have U:=cO.1 U;have Y:=cO.1 Y;have g2:=cO.1 g2;have g3:=bN.1 g3;have g4:=oT g4;obtain rfl:=ya h;obtain⟨i,H,hi,hzv,hov⟩:=lQ hz;have hzr:VR G w z H:=mR hov;obtain⟨m,rfl⟩: ∃m:Nat,n=(m:Int):=⟨n.toNat,by omega⟩
   rw[yy]at U⊢
   obtain⟨hv,O⟩:=Je (n:=m) hM hq hzr g3 Y g4;have his:i.size=e:=by unfold jR at he;rw[hi]at he;simpa using he
   have hib:i.bytes≤4096:=by unfold kT at N;rw[hi]at N;simp at N;omega
   have hfit:=yR U hib;have J:=Lib.run_append_nil_zeros (P:=P) w t tx ty M i H kn kx (oR het) hkx hi hzv m (by omega) (by omega) (by unfold bJ at U;omega) (by omega);have hrc:=jW H.cells (by omega) m;have hc:Builtin.zeroCells H.cells m=(flat (List.replicate m H)).toArray:=by
    rw[<-yv2 (xs:=Builtin.zeroCells H.cells m),fQ,<-hrc];rfl
   have K:m≤grownCap w m 0 M:=grownCap_ge w _ _ _;rw[hc]at J;have hMd:=hM.ev (Ev.drew G w) (.inl rfl) (λB _=>rfl);have hvd:bL G w.drew (aZ.pvs q.1 e (List.replicate m q.2.1)).all (flat (List.replicate m H)):=hv.mono (c5.refl G) (Ev.drew G w);obtain⟨V,rfl,hg',hev,hM',hl⟩:=FZ (row:= .pvs q.1 e (List.replicate m q.2.1)) (vs:=flat (List.replicate m H)) (rest:=Builtin.zeroCells H.cells (grownCap w m 0 M-m)) (t:=M) hMd Z Y rfl hvd;have hfl:(flat (List.replicate m H)).length=m*e:=by
    rw[iC (e:=e) (us:=List.replicate m H) (λu hu=>by rw[(yw2.1 hu).2];exact O)];simp
   refine⟨_,_,_,J,?_,hg',(Ev.drew G w).trans (c5.refl G) hev,by simpa[dI.apply,aN]using hM'⟩;generalize grownCap w m 0 M=C at K J⊢
   have hk:VR (G.put rs 0 ⟨some w.drew.heap.size,(aZ.pvs q.1 e (List.replicate m q.2.1)).e,(aZ.pvs q.1 e (List.replicate m q.2.1)).len,0⟩) (w.drew.alloc (.cells ((flat (List.replicate m H)).toArray++Builtin.zeroCells H.cells (C-m)) M)) (.msw rs 0) (.slice (some ⟨w.heap.size,0,none⟩) m C):=by
    have:=VR.msw (G:=G.put rs 0 ⟨some w.drew.heap.size,(aZ.pvs q.1 e (List.replicate m q.2.1)).e,(aZ.pvs q.1 e (List.replicate m q.2.1)).len,0⟩) (w:=w.drew.alloc (.cells ((flat (List.replicate m H)).toArray++Builtin.zeroCells H.cells (C-m)) M)) rs 0 C _ w.drew.heap.size (Gh.put_self ..) rfl (by simp[aZ.len];exact K) (λj hj=>by
     rw[kP];simp only[aZ.e,yc1]at hj;have hjs:j<((flat (List.replicate m H)).toArray++Builtin.zeroCells H.cells (C-m)).size:=by
      simp only[Array.size_append,List.size_toArray,size_zeroCells,hfl,O];rw[<-yt1];exact yj2 hj (ym2 _ (by omega))
     rw[yb2 hjs];rfl)
    simpa[aZ.len]using this
   exact hk
  ·cases h
 ·cases h
theorem Gl{boxed vars:Bool}{b:Builtin}{ts:Array TypeId}{ty:TypeId}{consts:Array Bool}{rs:Nat}{args:List AV}{vs:Array Value}(hM:aH G w mem)(V:b= .append->mem[rs]?=some none)
  (h:eD P boxed vars b ts.toList mem rs args=some out) (J:pY G w args vs):
  ∃s:Sem Value,builtin b ts ty consts vs=(do pure (Next.value (<-s)))/\∃G' Y cv,s.run P w= .ok cv Y/\VR G' Y out.v cv/\c5 G G'/\Ev G w Y/\aH G' Y (out.apply mem):=by
 have W: ∀j,vs.getD j undef=vs.toList.getD j undef:=λj=>(eL vs j).symm;unfold eD at h;split at h
 ·rename_i t x M;obtain⟨n,hn,rfl⟩:=ye.1 h;have H:ts= #[t]:=by rw[<-M,yv2]
  obtain⟨x',rfl⟩:=Uf J.1.symm;have K:=J.2 0 x rfl;simp at K;subst H;exact⟨_,rfl,G,w,_,LY hM hn K,.lit _ rfl,c5.refl G,Ev.refl G w,by simpa[dI.apply,aN]using hM⟩
 ·rename_i t Z kn n M;have H:ts= #[t,Z]:=by rw[<-M,yv2]
  obtain⟨x',y',rfl⟩:=Ux J.1.symm;have K:=J.2 0 _ rfl;have N:=J.2 1 _ rfl;simp at K N;obtain rfl:=K.lit_inv;obtain rfl:=N.lit_inv;subst H;exact⟨_,rfl,OG hM (V rfl) h⟩
 ·rename_i t Z x y hno M;have H:ts= #[t,Z]:=by rw[<-M,yv2]
  obtain⟨x',y',rfl⟩:=Ux J.1.symm;have K:=J.2 0 x rfl;have N:=J.2 1 y rfl;simp at K N;subst H;exact⟨_,rfl,Ij hM (V rfl) h K N⟩
 ·rename_i t M;have H:ts= #[t]:=by rw[<-M,yv2]
  obtain⟨x',rfl⟩:=Uf J.1.symm;have K:=J.2 0 _ rfl;simp at K;obtain rfl:=K.lit_inv;subst H;split at h
  ·rename_i et hu;obtain rfl:=ya h;exact⟨_,rfl,G,w,.int .i64 0,by simp[Builtin.cap_,run_underlying hu,goInt],.lit _ rfl,c5.refl G,Ev.refl G w,by simpa[dI.apply,aN]using hM⟩
  ·cases h
 ·rename_i k a r;obtain⟨v,U,rfl⟩:=ye.1 h;have K:=J.2 0 _ rfl;obtain⟨x',O,hvs⟩: ∃x' O,vs.toList=x'::O:=by
   cases hh:vs.toList with
   |nil=>have:=J.1;rw[<-yd2,hh]at this;simp at this
   |cons x' O=>exact⟨x',O,rfl⟩
  rw[W,hvs]at K;obtain rfl:=K.lit_inv;have:=wW (P:=P) (G:=G) (w:=w) (op:=Builtin.min2) (f:=TG k) (k:=k) (λa b=>by simp[Builtin.min2,TG,Bool.cond_decide]) U
   ⟨by have:=J.1;rw[<-yd2,hvs]at this;simpa using this,λj y N=>by have:=J.2 (j+1) y (by simpa using N);rw[W,hvs]at this;simpa using this⟩
  refine⟨_,rfl,G,w,.int k v,?_,.lit _ rfl,c5.refl G,Ev.refl G w,by simpa[dI.apply,aN]using hM⟩;simp only[Builtin.min_,hvs];exact this
 ·rename_i k a r;obtain⟨v,U,rfl⟩:=ye.1 h;have K:=J.2 0 _ rfl;obtain⟨x',O,hvs⟩: ∃x' O,vs.toList=x'::O:=by
   cases hh:vs.toList with
   |nil=>have:=J.1;rw[<-yd2,hh]at this;simp at this
   |cons x' O=>exact⟨x',O,rfl⟩
  rw[W,hvs]at K;obtain rfl:=K.lit_inv;have:=wW (P:=P) (G:=G) (w:=w) (op:=Builtin.max2) (f:=S2 k) (k:=k) (λa b=>by simp[Builtin.max2,S2,Bool.cond_decide]) U
   ⟨by have:=J.1;rw[<-yd2,hvs]at this;simpa using this,λj y N=>by have:=J.2 (j+1) y (by simpa using N);rw[W,hvs]at this;simpa using this⟩
  refine⟨_,rfl,G,w,.int k v,?_,.lit _ rfl,c5.refl G,Ev.refl G w,by simpa[dI.apply,aN]using hM⟩;simp only[Builtin.max_,hvs];exact this
 ·simp at h
theorem aH.sameCells{G:Gh}{w K:World}{mem:aK}(hM:aH G w mem)(J:Ev G w K)(hc: ∀B o,cl K B o=cl w B o)(hs:K.heap.size=w.heap.size)(hf: ∀B,gW w B->gW K B):aH G K mem where
 box b x h:=by
  have Y:=hM.box b x h;obtain⟨o,a0,Z,O,hm⟩:=Y.loc;refine⟨Y.e,o,a0,Z,O,?_⟩;cases o with
  |none=>exact hm
  |some B=>
   obtain⟨M,N,W,V,U⟩:=hm;exact⟨M,by rw[hs];exact N,hf B W,V.mono (c5.refl G) J (λo _=>hc B o) (λi c B' H=>⟨⟨hc B',hf B'⟩,(hM.inn h ⟨_,Z,rfl⟩ H).2.2.2⟩),U⟩
 unset:=hM.unset
 gens:=hM.gens
 apart:=hM.apart
 inA b b' x x' B i c B' h k H h':=hM.inA b b' x x' B i c B' h k (H.same (hc B)) h'
 inB b b' x x' B C i c i' c' B' h k H h' k' hi':=hM.inB b b' x x' B C i c i' c' B' h k (H.same (hc B)) h' k' (hi'.same (hc C))
 own B h:=hM.own B (by rw[<-hs];exact h)
 lab:=hM.lab
 away β B o h:=by rw[hs];exact hM.away β B o h
 glob:=hM.glob.mono (λ_ _ h=>h) (J.prot true)
theorem S4{w:World}{B:Nat}(hf:gW w B):
  ∃H,(∀k,(markStringish ⟨B,k,none⟩).run P w= .ok () H)/\(∀B' o,cl H B' o=cl w B' o)/\H.heap.size=w.heap.size/\H.output=w.output/\H.os=w.os/\H.tape=w.tape/\(∀B',B'≠B->H.heap[B']?=w.heap[B']?)/\
   (∀B',gW w B'->gW H B'):=by
 obtain⟨c,el,K,M,O,hr⟩:=hf;refine⟨w.freeze ⟨B,c.size,none⟩ 1,λk=>?_,?_⟩
 ·simp[markStringish,World.shape?,O]
 have U:(w.freeze ⟨B,c.size,none⟩ 1).heap[B]?=some (.cells c el (if K==M then(c.size,c.size+1)else(min K c.size,max M (c.size+1)))):=by
  unfold World.freeze;rw[if_neg (by decide)];simp only[Array.getElem?_modify,if_true,O,yl]
 have J: ∀B',B'≠B->(w.freeze ⟨B,c.size,none⟩ 1).heap[B']?=w.heap[B']?:=λB' e=>by
  unfold World.freeze;rw[if_neg (by decide)];simp only[Array.getElem?_modify];rw[if_neg (λh=>e h.symm)]
 have N:(w.freeze ⟨B,c.size,none⟩ 1).heap.size=w.heap.size:=by
  unfold World.freeze;rw[if_neg (by decide)];simp
 refine⟨λB' o=>?_,N,rfl,rfl,rfl,J,λB' hf=>?_⟩
 ·by_cases e:B'=B
  ·subst e;unfold cl World.cell?;simp[U,O]
  ·exact dP (J B' e) o
 ·by_cases e:B'=B
  ·subst e;by_cases h:K=M
   ·exact⟨c,el,c.size,c.size+1,by rw[U];simp[h],.inr (ya1 _)⟩
   ·have V:c.size≤K:=hr.resolve_left h;exact⟨c,el,min K c.size,max M (c.size+1),by rw[U];simp[h],.inr (by omega)⟩
  ·exact hf.of_heap (J B' e)
theorem GL{boxed:Bool}{J dst:TypeId}{rs:Nat}{x:AV}{cv:Value}(hM:aH G w mem)(h:mM P boxed J dst mem rs x=some out)(hx:VR G w x cv):
  ∃W K r,(convert J dst cv).run P w= .ok r K/\VR W K out.v r/\c5 G W/\Ev G w K/\aH W K (out.apply mem):=by
 have still: ∀{o:dI} {r:Value},o.wr= []->o.push= []->(convert J dst cv).run P w= .ok r w->VR G w o.v r->
   ∃W K r,(convert J dst cv).run P w= .ok r K/\VR W K o.v r/\c5 G W/\Ev G w K/\aH W K (o.apply mem):=
  λh1 h2 hr hv=>⟨G,w,_,hr,hv,c5.refl G,Ev.refl G w,by simp only[dI.apply,h1,h2,aN,yo1];exact hM⟩
 unfold mM at h;split at h
 ·rename_i k1 k n kk hs Y;obtain rfl:=ya h;obtain rfl:=hx.lit_inv;exact still rfl rfl (by simp[convert,run_underlying hs,run_underlying Y,Conv.intToInt]) (.lit _ rfl)
 ·rename_i s hs Y;obtain rfl:=ya h;obtain rfl:=hx.lit_inv;exact still rfl rfl (by simp[convert,run_underlying hs,run_underlying Y]) (.lit _ rfl)
 ·rename_i e hs Y;split at h
  ·rename_i he;rw[bind_some]at h;obtain⟨v,hv,h⟩:=h;rw[aA]at h;obtain⟨hg,h⟩:=h;simp only[yc]at hg;obtain⟨vw,rd⟩:=v;simp only at h hv;split at h
   ·rename_i xs;obtain rfl:=ya h;have ht:jR P e=some 1:=by
     have:=hg.2;split at this
     ·assumption
     ·simp at this
    exact still rfl rfl (Jm hM hs he Y hv ht hg.1 hx) (.lit _ rfl)
   ·simp at h
  ·simp at h
 ·rename_i e0 e b g hs Y;split at h
  ·rename_i he;rw[aA]at h;obtain⟨V,h⟩:=h;rw[bind_some]at h;obtain⟨bx,hbx,h⟩:=h;rw[aA]at h;obtain⟨h1,h⟩:=h;obtain rfl:=ya h;have V:=bN.1 V;have h1:=cO.1 h1;have M:=box?_some hbx;obtain⟨o,a0,hl,ha0,hm⟩:=(hM.box b bx M.1).loc;rw[M.2]at hl;have U: ∃B a1 cap,cv= .slice (some ⟨B,a1,none⟩) bx.row.len cap/\G.mine B/\gW w B:=by
    cases hx with
    |msw _ _ cap L B H hb hn hf=>
     rw[hl]at H;obtain rfl:=ya H;simp only at hb;subst hb;exact⟨B,_,cap,rfl,hm.1,hm.2.2.1⟩
    |mswNil _ _ L H hb hn=>
     rw[hl]at H;obtain rfl:=ya H;simp only at hn;omega
   obtain⟨B,a1,cap,rfl,O,hF⟩:=U;obtain⟨w1,hrun,hc,Z,ho,hos,htp,hne,hfr⟩:=S4 (P:=P) hF
   have N:Ev G w w1:=⟨by rw[Z];exact ya1 _,ho,hos,λB' _ hn=>hne B' (λe=>hn (by rw[e];exact O)),λB' j hs=>by rw[hc];exact hs,λ_ B' j _=>hc B' j,
    λB' j hj=>by
     by_cases e:B'=B
     ·subst e;rw[hF.cell hj,(hfr _ hF).cell (by rw[hc];exact hj)]
     ·exact Hi (hne B' e) j,htp⟩
   refine⟨G,w1,_,?_,hx.mono (c5.refl G) N,c5.refl G,N,by simp only[dI.apply,aN,yo1];exact hM.sameCells N hc Z hfr⟩;subst V;simp[convert,run_underlying hs,run_underlying he,hrun]<;>simp_all[run_underlying]
  ·simp at h
 ·simp at h
end
end Go.Ab
end
