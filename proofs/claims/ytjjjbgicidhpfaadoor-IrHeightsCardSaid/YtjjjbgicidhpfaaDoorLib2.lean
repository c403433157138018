/- The evaluator. -/
import Derived.Test.YtjjjbgicidhpfaaDoorLib1
import Derived.Laws.AppendOwn
import Derived.Deep.Upon
import Derived.Laws.MakeOwn
import Derived.Great.BuildSlice
import Derived.Laws.BytesString
import Derived.Laws.Cells
import Derived.Lib.AppendZeros
set_option linter.unusedVariables false
set_option linter.unusedSectionVars false
set_option linter.unusedSimpArgs false
section
namespace Go.Ab
variable [cS]
section
variable {P:Program}
def bW(G:Gh)(w:World)(v:aP)(vs:List Value):Prop:=
 vs.length=v.len*v.e/\(∀u∈vs,u.oneCell'=true)/\
 match v with
 | .ints k xs=> ∀(i:Nat) (x:Int),xs[i]?=some x->vs[i]?=some (.int k x)
 | .pvs β e xs=>(∀x∈xs,x.cells.length=e)/\∀(i:Nat) (x:PV) (c:Nat) (y:PV),xs[i]?=some x->x.cells[c]?=some y->∃u,vs[i*e+c]?=some u/\PR w (G.prot β) y u
 | .avs e cs=>cs.length=e*aY e cs.length/\∀(j:Nat) (y:AV),cs[j]?=some y->∃u,vs[j]?=some u/\VR G w y u
theorem sI(r:bC):r.all.e=r.e:=by cases r<;>rfl
theorem eL(r:bC):r.all.len=r.len:=by cases r<;>rfl
theorem mX(v:aP):v.row.e=v.e:=by cases v<;>rfl
theorem gW(v:aP):v.row.len=v.len:=by cases v<;>rfl
theorem mG(v:aP):v.row.all=v:=by cases v<;>rfl
theorem mH(v:aP):v.row.isOwn=false:=by cases v<;>rfl
theorem jI{e n:Nat}(he:1≤e)(k:Nat):aY e (k*e)=k:=by
 unfold aY;have H:Nat.beq e 0=false:=by
  cases e with
  |zero=>omega
  |succ e=>rfl
 rw[H];simp only[yg];cases J:Nat.beq e 1 with
 |true=>rw[Nat.eq_of_beq_eq_true J];simp
 |false=>simp only[yg];exact Nat.mul_div_cancel k (by omega)
theorem jR.toList{G:Gh}{w:World}{B a:Nat}{r:bC}(he:1≤r.e)(ho:r.isOwn=false)(ha:r.isInts=false->a=0)(h:jR G w B a r):
  ∃vs:List Value,bW G w r.all vs/\∀j,j<vs.length->cl w B (a+j)=vs[j]?:=by
 cases r with
 |ints k xs=>
  refine⟨xs.map (.int k),⟨by simp[aP.len,aP.e,bC.all],by simp[Value.oneCell'],λi x O=>by simp[O]⟩,λj H=>?_⟩;simp at H;rw[h j xs[j] (ye H)];simp[H]
 |pvs β e xs=>
  obtain rfl:=ha rfl;simp only[ye1];obtain⟨N,M⟩:=h;have U: ∀j,j<xs.length*e->∃v,cl w B j=some v/\v.oneCell'=true:=by
   intro j H;have hi:j/e<xs.length:=by rw[Nat.div_lt_iff_lt_mul (by simp[bC.e]at he;omega)];exact H
   have hc:j%e<(xs[j/e]).cells.length:=by rw[N _ (yf2 _)];exact Nat.mod_lt _ (by simp[bC.e]at he;omega)
   obtain⟨v,J,K,_⟩:=M (j/e) (xs[j/e]) (j%e) ((xs[j/e]).cells[j%e]) (ye _) (ye _);rw[show j/e*e+j%e=j by rw[yb3];exact Nat.div_add_mod j e]at J;exact⟨v,J,K⟩
  refine⟨(List.range (xs.length*e)).map (λj=>(cl w B j).getD undef),⟨by simp[aP.len,aP.e,bC.all],?_,N,?_⟩,?_⟩
  ·intro u W;obtain⟨j,H,rfl⟩:=yl3.1 W;obtain⟨v,J,K⟩:=U j (by simpa using H);rw[J];exact K
  ·intro i x c y O V;have hi:=(yd.1 O).1;have hc:=(yd.1 V).1;obtain⟨v,J,_,Z⟩:=M i x c y O V;have Y:i*e+c<xs.length*e:=by
    rw[N x (yj O)]at hc
    calc i*e+c<i*e+e:=by omega
     _=(i+1)*e:=by rw[yz1];simp
     _≤xs.length*e:=yr2 _ hi
   exact⟨v,by simp[Y,J],Z⟩
  ·intro j H;simp at H;obtain⟨v,J,_⟩:=U j H;simp[H,J]
 |cells e cs=>
  obtain rfl:=ha rfl;simp only[ye1];obtain⟨N,M⟩:=h;refine⟨(List.range cs.length).map (λj=>(cl w B j).getD undef),⟨?_,?_,N,?_⟩,?_⟩
  ·simp only[aP.len,aP.e,bC.all,ym1,yy2];rw[yb3];exact N
  ·intro u W;obtain⟨j,H,rfl⟩:=yl3.1 W;obtain⟨v,J,K,_⟩:=M j (cs[j]'(by simpa using H)) (ye _);rw[J];exact K
  ·intro j y V;have H:=(yd.1 V).1;obtain⟨v,J,_,Z⟩:=M j y V;exact⟨v,by simp[H,J],Z⟩
  ·intro j H;simp at H;obtain⟨v,J,_⟩:=M j (cs[j]) (ye _);simp[H,J]
 |own e xs hs=>cases ho
theorem jR.ofList{G:Gh}{w:World}{B a:Nat}{r:bC}{vs:List Value}(U:r.isOwn=false)(O:r.isInts=false->a=0)(h:bW G w r.all vs)(hc: ∀j u,vs[j]?=some u->cl w B (a+j)=some u):jR G w B a r:=by
 obtain⟨hl,N,h⟩:=h;cases r with
 |ints k xs=>exact λi x J=>hc _ _ (h i x J)
 |pvs β e xs=>
  obtain rfl:=O rfl;simp only[ye1]at hc;refine⟨h.1,λi x c y J K=>?_⟩;obtain⟨u,H,M⟩:=h.2 i x c y J K;exact⟨u,hc _ _ H,N u (yj H),M⟩
 |cells e cs=>
  obtain rfl:=O rfl;simp only[ye1]at hc;refine⟨h.1,λj y K=>?_⟩;obtain⟨u,H,M⟩:=h.2 j y K;exact⟨u,hc _ _ H,N u (yj H),M⟩
 |own e xs hs=>cases U
theorem bW.mono{G U:Gh}{w N:World}(M:dH G U)(O:Ev G w N){v:aP}{vs:List Value}(h:bW G w v vs):bW U N v vs:=by
 obtain⟨Y,W,h⟩:=h;refine⟨Y,W,?_⟩;cases v with
 |ints k xs=>exact h
 |pvs β e xs=>exact⟨h.1,λi x c y V H=>by obtain⟨u,J,K⟩:=h.2 i x c y V H;exact⟨u,J,K.mono (M.prot β) (O.prot β)⟩⟩
 |avs e cs=>exact⟨h.1,λj y H=>by obtain⟨u,J,K⟩:=h.2 j y H;exact⟨u,J,K.mono M O⟩⟩
theorem UH{G:Gh}{w:World}{β:Bool}{t:TypeId}{p:PV}{c:Nat}{a:AV}(h:QS P β t p c=some a){cv:Nat->Value}(hr: ∀j y,p.cells[j]?=some y->PR w (G.prot β) y (cv j)):
  ∀(j:Nat) (y:AV),a.cells[j]?=some y->VR G w y (cv (c+j))/\∃q,p.cells[c+j]?=some q:=by
 unfold QS at h;split at h
 ·rw[bind_some]at h;obtain⟨ls,V,h⟩:=h;rw[bind_some]at h;obtain⟨n,hn,h⟩:=h;rw[aA]at h;obtain⟨W,h⟩:=h;rw[bind_some]at h;obtain⟨as,K,h⟩:=h;obtain rfl:=yb h;obtain⟨N,hf⟩:=qJ (G:=G) (w:=w) K;obtain⟨Y,U⟩:=hf (λj=>cv (c+j)) (λj y H _=>hr _ y H);intro j y H;have H:as[j]?=some y:=H;exact⟨U j y H,Y j (by rw[<-N];exact(yd.1 H).1)⟩
 ·rw[bind_some]at h;obtain⟨l,N,h⟩:=h;rw[bind_some]at h;obtain⟨q,M,h⟩:=h;have O:=wK (G:=G) (w:=w) h (hr c q M);intro j y H;have J:a.cells= [a]:=by
   unfold iO at h;split at h<;>(rw[bind_some]at h;obtain⟨x,_,h⟩:=h;obtain rfl:=yb h;rfl)
  rw[J]at H;cases j with
  |zero=>simp at H;subst H;exact⟨O,q,M⟩
  |succ j=>simp at H
 ·simp at h
theorem Gu{G:Gh}{w:World}{β:Bool}{t:TypeId}{e:Nat}: ∀{xs:List PV} {cs:List AV} {vs:List Value},JF P t β e xs=some cs->vs.length=xs.length*e->
  (∀(i:Nat) (x:PV) (c:Nat) (y:PV),xs[i]?=some x->x.cells[c]?=some y->∃u,vs[i*e+c]?=some u/\PR w (G.prot β) y u)->kI G w cs vs
 | [],cs,vs,h,M,_=>by
  simp[JF]at h;subst h;simp at M;subst M;exact⟨rfl,λj y H=>by simp at H⟩
 |p::r,cs,vs,h,M,W=>by
  simp only[JF]at h;rw[bind_some]at h;obtain⟨v,hv,h⟩:=h;rw[aA]at h;obtain⟨V,h⟩:=h;have V:=bZ.1 V;obtain⟨cs',O,rfl⟩:=yf.1 h;have J:vs.length=e+r.length*e:=by rw[M];simp[yz1,Nat.add_comm]
  have Y:=Gu (G:=G) (w:=w) (vs:=vs.drop e) O (by simp[J]) (λi x c y hx H=>by
   obtain⟨u,K,U⟩:=W (i+1) x c y (by simpa using hx) H;refine⟨u,?_,U⟩
   rw[yg1,show e+(i*e+c)=(i+1)*e+c by rw[yz1];omega];exact K)
  have N:=UH (P:=P) (G:=G) (w:=w) hv (cv:=λj=>vs.getD j undef) (λj y H=>by
   obtain⟨u,K,U⟩:=W 0 p j y rfl H;simp only[ys3,ye1]at K
   rw[ym,K];exact U)
  refine⟨by rw[yi,V,Y.1];simp;omega,λj y H=>?_⟩;by_cases Z:j<v.cells.length
  ·rw[yq Z]at H;simpa using(N j y H).1
  ·rw[yy (by omega)]at H;have:=Y.2 _ y H;rw[ym,yg1]at this;rw[ym,show j=e+(j-v.cells.length) by omega];exact this
theorem KO: ∀{cs:List AV},lX cs=true->∀v∈cs,Mz v=true
 |v::r,h,u,H=>by
  simp only[lX,yc]at h;cases H with
  |head=>exact h.1
  |tail _ H=>exact KO h.2 u H
theorem OO{G:Gh}{w:World}{a:AV}{v:Value}(h:VR G w a v)(H:Mz a=true):v.oneCell'=true:=by
 cases h with
 |lit v hv=>exact H
 |imm β p v J hs=>cases J<;>first|rfl|simp[PV.isSl]at hs
 |dead v h h'=>exact h
 |agg=>simp[Mz]at H
 |tup=>simp[Mz]at H
 |_=>rfl
theorem kI.ones{G:Gh}{w:World}{cs:List AV}{vs:List Value}(h:kI G w cs vs)(M:lX cs=true): ∀u∈vs,u.oneCell'=true:=by
 intro u K;obtain⟨j,J,rfl⟩:=yb2 K;have H:j<cs.length:=by rw[h.1];exact J
 have:=h.2 j cs[j] (ye H);rw[ym,ye J]at this;exact OO this (KO M _ (yf2 _))
theorem GQ{G:Gh}{w:World}{t:TypeId}{v:aP}{cs:List AV}{vs:List Value}(h:v.toAvs P t=some cs)(H:bW G w v vs):kI G w cs vs:=by
 obtain⟨J,h1,H⟩:=H;cases v with
 |ints k xs=>
  obtain rfl:=yb h;simp only[aP.len,aP.e,yt3]at J;refine⟨by simp[J],λj y K=>?_⟩;obtain⟨x,hx,rfl⟩: ∃x,xs[j]?=some x/\AV.lit (.int k x)=y:=by simpa using K
  rw[ym,H j x hx];exact .lit _ rfl
 |pvs β e xs=>exact Gu h J H.2
 |avs e N=>
  obtain rfl:=yb h;simp only[aP.len,aP.e]at J;refine⟨by rw[J,yb3];exact H.1,λj y K=>?_⟩;obtain⟨u,M,O⟩:=H.2 j y K;rw[ym,M];exact O
theorem kI.append{G:Gh}{w:World}{a b:List AV}{u v:List Value}(h:kI G w a u)(K:kI G w b v):kI G w (a++b) (u++v):=by
 refine⟨by simp[h.1,K.1],λj y H=>?_⟩;by_cases J:j<a.length
 ·rw[yq J]at H;rw[ym,yq (by rw[<-h.1];exact J),<-ym];exact h.2 j y H
 ·rw[yy (by omega)]at H;rw[ym,yy (by rw[<-h.1];omega),<-ym,<-h.1];exact K.2 _ y H
theorem PR.weak{w:World}{G:Gh}(H: ∀B o,G.prot false B o->G.prot true B o){β β':Bool}{p:PV}{v:Value}(h:PR w (G.prot β) p v):PR w (G.prot (β||β')) p v:=by
 cases β<;>cases β'<;>first|exact h|exact h.mono (λ_ _ x=>H _ _ x) (λ_ _ _=>rfl)
theorem PR.weak'{w:World}{G:Gh}(H: ∀B o,G.prot false B o->G.prot true B o){β β':Bool}{p:PV}{v:Value}(h:PR w (G.prot β) p v):PR w (G.prot (β'||β)) p v:=by
 rw[Bool.or_comm];exact h.weak H
theorem Et{G:Gh}{w:World}(U: ∀B o,G.prot false B o->G.prot true B o){t:TypeId}{x y z:aP}{vs us:List Value}(h:x.app P t y=some z)(J:bW G w x vs)(W:bW G w y us):
  bW G w z (vs++us)/\z.e=x.e/\z.e=y.e/\z.len=x.len+y.len:=by
 unfold aP.app at h;split at h
 ·rename_i k xs k' ys;rw[aA]at h;obtain⟨hk,h⟩:=h;rw[l6]at hk;subst hk;obtain rfl:=yb h;obtain⟨K,o1,V⟩:=J;obtain⟨Y,o2,y2⟩:=W;simp only[aP.len,aP.e,yt3]at K Y;refine⟨⟨by simp[aP.len,aP.e,K,Y],λu M=>(yr1.1 M).elim (o1 u) (o2 u),λi x J=>?_⟩,rfl,rfl,by simp[aP.len]⟩;by_cases hi:i<xs.length
  ·rw[yq hi]at J;rw[yq (by omega)];exact V i x J
  ·rw[yy (by omega)]at J;rw[yy (by omega),K];exact y2 _ x J
 ·rename_i β e xs β' e' ys;rw[aA]at h;obtain⟨he,h⟩:=h;obtain rfl:=bZ.1 he;obtain rfl:=yb h;obtain⟨K,o1,V⟩:=J;obtain⟨Y,o2,y2⟩:=W;simp only[aP.len,aP.e]at K Y;refine⟨⟨by simp[aP.len,aP.e,K,Y,yz1],λu M=>(yr1.1 M).elim (o1 u) (o2 u),λx J=>(yr1.1 J).elim (V.1 x) (y2.1 x),λi x c y J W=>?_⟩,rfl,rfl,by simp[aP.len]⟩;by_cases hi:i<xs.length
  ·rw[yq hi]at J;obtain⟨u,M,hp⟩:=V.2 i x c y J W;exact⟨u,by rw[yq (yd.1 M).1];exact M,hp.weak U⟩
  ·rw[yy (by omega)]at J;obtain⟨u,M,hp⟩:=y2.2 _ x c y J W;refine⟨u,?_,hp.weak' U⟩;have e1:i*e=xs.length*e+(i-xs.length)*e:=by rw[<-yz1];congr 1;omega
   rw[yy (by rw[K,e1];omega),K,show i*e+c-xs.length*e=(i-xs.length)*e+c by omega];exact M
 ·rename_i e xs;rw[bind_some]at h;obtain⟨ys,hys,h⟩:=h;rw[aA]at h;obtain⟨hc,h⟩:=h;obtain rfl:=yb h;simp only[yc]at hc;obtain⟨⟨hones,he⟩,Z⟩:=hc;obtain rfl:=bZ.1 he;have Z:=dA.1 Z;have hL:=GQ hys W;obtain⟨K,o1,V⟩:=J;obtain⟨Y,o2,y2⟩:=W;replace K:vs.length=aY y.e xs.length*y.e:=K;have hcx:xs.length=aY y.e xs.length*y.e:=by rw[yb3];exact V.1
  have hcy:ys.length=y.len*y.e:=by rw[hL.1];exact Y
  have N:(xs++ys).length=(aY y.e xs.length+y.len)*y.e:=by rw[yi,hcy,yz1];omega
  have H:aY y.e (xs++ys).length=aY y.e xs.length+y.len:=by rw[N];exact jI (n:=0) Z _
  have hxv:kI G w xs vs:=⟨by rw[K];exact hcx,λj z hz=>by obtain⟨u,M,hp⟩:=V.2 j z hz;rw[ym,M];exact hp⟩
  have O:=hxv.append hL;refine⟨⟨?_,λu M=>(yr1.1 M).elim (o1 u) (o2 u),?_,λj z hz=>?_⟩,rfl,rfl,?_⟩
  ·show(vs++us).length=aY y.e (xs++ys).length*y.e
   rw[H,<-N,O.1]
  ·rw[H,yb3];exact N
  ·have hj:j<(vs++us).length:=by rw[<-O.1];exact(yd.1 hz).1
   have:=O.2 j z hz;rw[ym,ye hj]at this;exact⟨_,ye hj,this⟩
  ·exact H
 ·simp at h
end
end Go.Ab
end
section
namespace Go.Ab
variable [cS]
section
variable {P:Program}
theorem Fr{e i c n:Nat}(hc:c<e)(H:i<n):i*e+c<n*e:=by
 calc i*e+c<i*e+e:=by omega
  _=(i+1)*e:=by rw[yz1];simp
  _≤n*e:=yr2 _ H
theorem Fc{e i c:Nat}(hc:c<e):(i*e+c)/e=i/\(i*e+c)%e=c:=by
 constructor
 ·rw[yb3,Nat.mul_add_div (by omega),Nat.div_eq_of_lt hc];simp
 ·rw[yb3,Nat.mul_add_mod,Nat.mod_eq_of_lt hc]
theorem N9{P:Program}(w:World){size:Nat}{H M:TypeId}(J:P.underlying H=some (.slice M))(a:Option Addr):Src P size H (.slice a 0 0) 0 [] w:=by
 cases a with
 |none=>exact Src.ofNil w J 0
 |some a=>exact Src.ofSlice w J a 0 0 [] (by simp) (λj u K=>by simp at K) (by simp)
theorem PR.view{w:World}{G:Gh}{β:Bool}{e:Nat}{xs:List PV}{cv:Value}(h:PR w (G.prot β) (.sl e xs) cv):
  (xs= []/\∃a,cv= .slice a 0 0)\/∃B o cap vs,cv= .slice (some ⟨B,o,none⟩) xs.length cap/\1≤e/\xs.length≤cap/\bW G w (.pvs β e xs) vs/\∀j u,vs[j]?=some u->cl w B (o+j)=some u/\G.prot β B (o+j):=by
 cases h with
 |slNil _ a=>exact .inl ⟨rfl,a,rfl⟩
 |sl _ _ B o cap cv W O H h h1 hr=>
  have N: ∀j,j<xs.length*e->∃x y,xs[j/e]?=some x/\x.cells[j%e]?=some y:=by
   intro j K;have V:j/e<xs.length:=by rw[Nat.div_lt_iff_lt_mul (by omega)];exact K
   have hc:j%e<(xs[j/e]).cells.length:=by rw[H _ (yf2 _)];exact Nat.mod_lt _ (by omega)
   exact⟨_,_,ye V,ye hc⟩
  refine .inr ⟨B,o,cap,(List.range (xs.length*e)).map (λj=>cv (j/e) (j%e)),rfl,W,O,⟨by simp[aP.len,aP.e],?_,H,?_⟩,?_⟩
  ·intro u U;obtain⟨j,K,rfl⟩:=yl3.1 U;obtain⟨x,y,J,M⟩:=N j (by simpa using K);exact h1 _ x _ y J M
  ·intro i x c y J M;have V:=(yd.1 J).1;have hc:=(yd.1 M).1;rw[H x (yj J)]at hc;obtain⟨Z,Y⟩:=Fc (i:=i) hc;exact⟨cv i c,by simp[Fr hc V,Z,Y],hr i x c y J M⟩
  ·intro j u U;have K:j<xs.length*e:=by have:=(yd.1 U).1;simpa using this
   simp[K]at U;subst U;obtain⟨x,y,J,M⟩:=N j K;have:=h _ x _ y J M;rw[show o+j/e*e+j%e=o+j by rw[yk2,yb3,Nat.div_add_mod]]at this;exact this
theorem A0{G:Gh}{w:World}{r:bC}{o n:Nat}{v:aP}{vs:List Value}(Z:1≤r.e)(h:r.sub o n=some v)(hr:bW G w r.all vs):
  bW G w v ((vs.drop (o*r.e)).take (n*r.e))/\v.e=r.e/\v.len=n/\o+n≤r.len:=by
 obtain⟨O,h1,hr⟩:=hr;have M: ∀u∈(vs.drop (o*r.e)).take (n*r.e),u.oneCell'=true:=λu Y=>h1 u (List.mem_of_mem_drop (yk3 Y));cases r with
 |ints k xs=>
  simp only[bC.sub]at h;rw[aA]at h;obtain⟨H,h⟩:=h;have H:=dA.1 H;obtain rfl:=yb h;simp only[bC.all,aP.len,aP.e,yt3]at O;refine⟨⟨by simp[aP.len,aP.e,bC.e,O],M,λi x N=>?_⟩,rfl,by simp[aP.len];omega,H⟩;have V:i<n:=by have:=(yd.1 N).1;simp at this;omega
  rw[yu1 V,yg1]at N;simp only[bC.e,yt3];rw[yu1 V,yg1];exact hr _ _ N
 |pvs β e xs=>
  simp only[bC.sub]at h;rw[aA]at h;obtain⟨H,h⟩:=h;have H:=dA.1 H;obtain rfl:=yb h;simp only[bC.all,aP.len,aP.e]at O;simp only[bC.e]at Z;have K:((xs.drop o).take n).length=n:=by simp;omega
  refine⟨⟨?_,M,λx N=>hr.1 x (List.mem_of_mem_drop (yk3 N)),λi x c y N U=>?_⟩,rfl,K,H⟩
  ·simp only[aP.len,aP.e,K,bC.e,yj2,yd4,O];rw[<-Nat.mul_sub_right_distrib];exact Nat.min_eq_left (yr2 _ (by omega))
  ·have V:i<n:=by have:=(yd.1 N).1;omega
   rw[yu1 V,yg1]at N;obtain⟨u,Y,hp⟩:=hr.2 _ x c y N U;have hc:=(yd.1 U).1;rw[hr.1 x (yj N)]at hc;refine⟨u,?_,hp⟩;simp only[bC.e];rw[yu1 (Fr hc V),yg1,show o*e+(i*e+c)=(o+i)*e+c by rw[yz1];omega];exact Y
 |cells e cs=>
  simp only[bC.sub]at h;rw[aA]at h;obtain⟨H,h⟩:=h;have H:=dA.1 H;obtain rfl:=yb h;simp only[bC.e]at Z;have W:cs.length=aY e cs.length*e:=by rw[yb3];exact hr.1
  replace O:vs.length=aY e cs.length*e:=O;have hon:o+n≤aY e cs.length:=by
   rw[W]at H;exact Nat.le_of_mul_le_mul_right H (by omega)
  have K:((cs.drop (o*e)).take (n*e)).length=n*e:=by
   simp only[yj2,yd4];rw[yz1]at H;omega
  have J:aY e ((cs.drop (o*e)).take (n*e)).length=n:=by rw[K];exact jI (n:=0) Z n
  refine⟨⟨?_,M,?_,λj y U=>?_⟩,rfl,J,hon⟩
  ·show _=aY e ((cs.drop (o*e)).take (n*e)).length*e;rw[J];simp only[bC.e,yj2,yd4,O];rw[<-W];rw[yz1]at H;omega
  ·rw[J,K,yb3]
  ·have hj:j<n*e:=by have:=(yd.1 U).1;omega
   rw[yu1 hj,yg1]at U;obtain⟨u,Y,hp⟩:=hr.2 _ y U;refine⟨u,?_,hp⟩;simp only[bC.e];rw[yu1 hj,yg1];exact Y
 |own e xs hs=>cases h
theorem Iy(G:Gh)(w:World)(s:ByteArray):bW G w (.ints .u8 (c7 s)) (byteCells s):=by
 refine⟨by simp[aP.len,aP.e,c7,byteCells],λu J=>?_,λi x H=>?_⟩
 ·obtain⟨b,_,rfl⟩:=yl3.1 J;rfl
 ·unfold c7 at H;unfold byteCells;rw[yh1]at H⊢
  obtain⟨b,K,rfl⟩:=yf.1 H;rw[K];rfl
theorem bW.unmark{G:Gh}{w:World}{β β':Bool}{e:Nat}{xs:List PV}{vs:List Value}(hf:xs.all Fj=true)(h:bW G w (.pvs β e xs) vs):bW G w (.pvs β' e xs) vs:=by
 refine⟨h.1,h.2.1,h.2.2.1,λi x c y J K=>?_⟩;obtain⟨u,N,O⟩:=h.2.2.2 i x c y J K;refine⟨u,N,?_⟩;have M:=ya1.1 hf x (yj J);have H:=ya1.1 M y (yj K);cases y with
 |lit v=>
  cases O with
  |lit _ h=>exact .lit _ h
 |ints _ _=>cases H
 |sl _ _=>cases H
 |agg _=>cases H
theorem bW.unmarkIf{G:Gh}{w:World}{c β:Bool}{e:Nat}{xs:List PV}{vs:List Value}(h:bW G w (.pvs β e xs) vs):bW G w (.pvs (bif c&&xs.all Fj then false else β) e xs) vs:=by
 cases hc:(c&&xs.all Fj)with
 |false=>exact h
 |true=>exact h.unmark (yc _ _ ▸ hc).2
theorem BW{G:Gh}{w:World}{mem:aO}{et tx:TypeId}{y:AV}{v:aP×List Nat}{cv:Value}(hM:aJ G w mem)(h:view P et mem y=some v)(hy:VR G w y cv)(hs:k8 P et=some v.1.e)(M:Bt P tx y=true):
  ∃news,Src P v.1.e tx cv v.1.len news w/\bW G w v.1 news:=by
 have J:(∀s,y≠ .lit (.string s))->∃e',P.underlying tx=some (.slice e'):=by
  intro hne;unfold Bt at M;split at M
  ·rename_i s _;exact absurd rfl (hne s)
  ·simp at M
  ·exact⟨_,by assumption⟩
  ·simp at M
 unfold view at h;split at h
 ·rename_i β k xs;obtain rfl:=yb h;obtain⟨e',N⟩:=J (by simp);cases hy with
  |imm _ _ _ hp=>
   cases hp with
   |intsNil _ a=>exact⟨[],N9 w N a,by simp[aP.len,aP.e],by simp,λi x U=>by simp at U⟩
   |ints _ _ B o cap hcap hh=>
    refine⟨xs.map (.int k),Src.ofSlice w N ⟨B,o,none⟩ _ cap _ (by simp[aP.len,aP.e]) (λj u V=>?_) (by simp[Value.oneCell']),by simp[aP.len,aP.e],by simp[Value.oneCell'],λi x U=>by simp[U]⟩;obtain⟨x,U,rfl⟩: ∃x,xs[j]?=some x/\Value.int k x=u:=by simpa using V
    rw[dU];exact(hh j x U).1
 ·rename_i β e xs;obtain rfl:=yb h;obtain⟨e',N⟩:=J (by simp);cases hy with
  |imm _ _ _ hp=>
   rcases hp.view with ⟨rfl,a,rfl⟩|⟨B,o,cap,vs,rfl,he,hcap,hv,hc⟩
   ·exact⟨[],N9 w N a,by simp[aP.len,aP.e],by simp,λx U=>by simp at U,λi x c y U=>by simp at U⟩
   ·exact⟨vs,Src.ofSlice w N ⟨B,o,none⟩ _ cap vs hv.1 (λj u V=>by rw[dU];exact(hc j u V).1) hv.2.1,hv.unmarkIf⟩
 ·rename_i b g o n;rw[bind_some]at h;obtain⟨W,O,h⟩:=h;obtain⟨vw,H,rfl⟩:=yf.1 h;obtain⟨e',N⟩:=J (by simp);have he:=(hM.box b W (box?_some O).1).e;rcases hM.at_ms O hy with ⟨B,a0,cap,rfl,hn,hon,hl,ha0,hf,_,_,_,Y,_⟩|⟨rfl,rfl,rfl,hz,_,hl⟩|⟨B,oo,rfl,ho,rfl,hon,_,hl⟩
  ·obtain⟨vs,Z,hcl⟩:=Y.toList he (box?_own O) ha0;obtain⟨hv,hve,hvl,_⟩:=A0 he H Z;refine⟨_,?_,hv⟩;simp only at hs⊢
   rw[hve,hvl];refine Src.ofSlice w N ⟨B,a0+o*W.row.e,none⟩ n cap _ (by rw[hv.1,hve,hvl]) (λj u V=>?_) hv.2.1;rw[dU,yk2];have hj:j<n*W.row.e:=by
    have:=(yd.1 V).1;rw[hv.1,hve,hvl]at this;exact this
   rw[yu1 hj,yg1]at V;have:=hcl _ (yd.1 V).1;rw[V]at this;exact this
  ·have hv0:vw.len=0/\vw.e=W.row.e:=by
    obtain⟨gen,frz,row⟩:=W;cases row<;>simp only[bC.sub]at H<;>first|(cases H;done)|skip<;>rw[aA]at H<;>obtain⟨_,H⟩:=H<;>obtain rfl:=yb H<;>simp[aP.len,aP.e,bC.e,aY]
   have K:bW G w vw []:=by
    refine⟨by simp[hv0.1],by simp,?_⟩;obtain⟨gen,frz,row⟩:=W;cases row<;>simp only[bC.sub]at H<;>first|(cases H;done)|skip<;>rw[aA]at H<;>obtain⟨_,H⟩:=H<;>obtain rfl:=yb H<;>simp[aY]
   refine⟨[],?_,K⟩;simp only;rw[hv0.1];exact Src.ofNil w N 0
  ·have hv0:vw.len=0/\vw.e=W.row.e:=by
    obtain⟨gen,frz,row⟩:=W;cases row<;>simp only[bC.sub]at H<;>first|(cases H;done)|skip<;>rw[aA]at H<;>obtain⟨_,H⟩:=H<;>obtain rfl:=yb H<;>simp[aP.len,aP.e,bC.e,aY]
   have K:bW G w vw []:=by
    refine⟨by simp[hv0.1],by simp,?_⟩;obtain⟨gen,frz,row⟩:=W;cases row<;>simp only[bC.sub]at H<;>first|(cases H;done)|skip<;>rw[aA]at H<;>obtain⟨_,H⟩:=H<;>obtain rfl:=yb H<;>simp[aY]
   refine⟨[],?_,K⟩;simp only;rw[hv0.1];exact Src.ofSlice w N ⟨B,oo,none⟩ 0 0 [] (by simp) (λj u V=>by simp at V) (by simp)
 ·rename_i b g;rw[bind_some]at h;obtain⟨W,O,h⟩:=h;obtain rfl:=yb h;obtain⟨e',N⟩:=J (by simp);have he:=(hM.box b W (box?_some O).1).e;rcases hM.at_msw O hy with ⟨B,a0,cap,rfl,hn,hl,ha0,hf,_,_,_,Y,_⟩|⟨rfl,hz,hnc,_,hl⟩
  ·obtain⟨vs,Z,hcl⟩:=Y.toList he (box?_own O) ha0;refine⟨vs,?_,Z⟩;simp only[sI,eL];refine Src.ofSlice w N ⟨B,a0,none⟩ _ cap vs (by rw[Z.1,sI,eL]) (λj u V=>?_) Z.2.1;rw[dU];have:=hcl _ (yd.1 V).1;rw[V]at this;exact this
  ·have K:bW G w W.row.all []:=by
    refine⟨by rw[eL,hz];simp,by simp,?_⟩;obtain⟨gen,frz,row⟩:=W;cases row with
    |ints k xs=>simp only[bC.len]at hz;have:=yu hz;subst this;simp[bC.all]
    |pvs β e xs=>simp only[bC.len]at hz;have:=yu hz;subst this;simp[bC.all]
    |cells e cs=>simp[bC.isCells]at hnc
    |own e xs hs=>exact absurd (box?_own O) (by simp[bC.isOwn])
   refine⟨[],?_,K⟩;simp only[eL,hz];exact Src.ofNil w N 0
 ·rename_i s;obtain rfl:=yb h;obtain rfl:=hy.lit_inv;have N:P.underlying tx=some .string:=by
   unfold Bt at M;split at M<;>simp_all
  refine⟨byteCells s,?_,Iy G w s⟩;have:=Src.ofString (P:=P) w N s;simpa[aP.len,aP.e,c7]using this
 ·obtain⟨e',N⟩:=J (by simp);obtain rfl:=hy.lit_inv;split at h
  ·obtain rfl:=yb h;exact⟨[],Src.ofNil w N 0,by simp[aP.len,aP.e],by simp,λi x U=>by simp at U⟩
  ·obtain⟨e,he,rfl⟩:=yf.1 h;exact⟨[],Src.ofNil w N 0,by simp[aP.len,aP.e],by simp,λx U=>by simp at U,λi x c y U=>by simp at U⟩
 ·simp at h
end
end Go.Ab
end
section
namespace Go.Ab
variable [cS]
def bA(G:Gh)(w:World)(mem:aO)(ids:List Nat)(B _o:Nat):Prop:= ∃b∈ids,∃(x:bV) (C:Nat),mem[b]?=some (some x)/\x.row.okShut=true/\fP G b x C/\(B=C\/∃i c,c6 w C x.row i c B)
def Gh.frz(G:Gh)(S:Nat->Nat->Prop):Gh:={G with prot:=fun β B o=>G.prot β B o\/S B o}
theorem dH.frz(G:Gh)(S:Nat->Nat->Prop)(hS: ∀B o,S B o->G.mine B):dH G (G.frz S):=⟨rfl,λ_ _ _ h=> .inl h,λ_ _ _ h=>h,λ_ B o h=>h.imp id (hS B o)⟩
theorem aJ.mine{G:Gh}{w:World}{mem:aO}(hM:aJ G w mem){b:Nat}{x:bV}{L:Gi}{B:Nat}(H:mem[b]?=some (some x))(J:G.loc b x.gen=some L)(hB:L.blk=some B):G.mine B:=
 let ⟨_,_,_,h,_⟩:=hM.blk H ⟨L,J,hB⟩;h
theorem aJ.inBoxes{G:Gh}{w:World}{mem:aO}(hM:aJ G w mem){ids:List Nat}: ∀B o,bA G w mem ids B o->G.mine B:=by
 rintro B o ⟨b,_,x,C,H,_,hB,h⟩
 rcases h with rfl|⟨i,c,J⟩
 ·let ⟨_,_,_,h,_⟩:=hM.blk H hB;exact h
 ·exact(hM.inn H hB J).1
theorem aJ.inBoxes_lt{G:Gh}{w:World}{mem:aO}(hM:aJ G w mem){ids:List Nat}: ∀B o,bA G w mem ids B o->B<w.heap.size:=by
 rintro B o ⟨b,_,x,C,H,_,hB,h⟩
 rcases h with rfl|⟨i,c,J⟩
 ·exact hM.blkSz H hB
 ·exact(hM.inn H hB J).2.1
theorem bA.mono{G:Gh}{w:World}{mem:aO}{ids H:List Nat}(h: ∀b∈ids,b∈H){B o:Nat}(K:bA G w mem ids B o):bA G w mem H B o:=by
 obtain⟨b,J,r⟩:=K;exact⟨b,h b J,r⟩
theorem RP{r:bC}(h:r.isOwn=false):r.okShut=true:=by cases r<;>first|rfl|cases h
theorem Vu{r:bC}(h:r.isOwn=false):r.shut=r:=by cases r<;>first|rfl|cases h
theorem HS(r:bC):r.shut.isOwn=false:=by cases r<;>rfl
theorem Tw(r:bC):r.shut.e=r.e:=by cases r<;>rfl
theorem Nr(r:bC):r.shut.len=r.len:=by cases r<;>rfl
theorem SW(r:bC):r.shut.isInts=r.isInts:=by cases r<;>rfl
theorem QG(r:bC):r.shut.isCells=r.isCells:=by cases r<;>rfl
theorem bA.one{G:Gh}{w:World}{mem:aO}{ids:List Nat}{b:Nat}{x:bV}{L:Gi}{B o:Nat}(H:b∈ids)(J:mem[b]?=some (some x))(M:x.row.isOwn=false)(K:G.loc b x.gen=some L)(hB:L.blk=some B):bA G w mem ids B o:=
 ⟨b,H,x,B,J,RP M,⟨L,K,hB⟩,.inl rfl⟩
theorem eU(mem:aO): ∀(ids:List Nat) (m:aO) (b:Nat),m.length=mem.length->
  (∀x,mem[b]?=some (some x)->x.row.okShut=true->b∈ids->(aR m (cM mem ids))[b]?=some (some {x with frz:=true,row:=x.row.shut}))/\
  ((b∉ids\/∀x,mem[b]?=some (some x)->x.row.okShut=false)->(aR m (cM mem ids))[b]?=m[b]?)/\(aR m (cM mem ids)).length=mem.length
 | [],m,b,O=>⟨λx _ _ h=>by simp at h,λ_=>rfl,O⟩
 |a::r,m,b,O=>by
  unfold cM;split
  ·rename_i x W;have ha:a<m.length:=by rw[O];exact(yd.1 W).1
   cases M:x.row.okShut with
   |true=>
    simp only[yh,aR];obtain⟨V,N,U⟩:=eU mem r (m.set a (some {x with frz:=true,row:=x.row.shut})) b (by simpa using O);refine⟨λy K J H=>?_,λH=>?_,U⟩
    ·by_cases hr:b∈r
     ·exact V y K J hr
     ·have:b=a:=by simp at H;exact H.resolve_right hr
      subst this;rw[N (.inl hr),yt ha];rw[W]at K;simp at K;subst K;rfl
    ·have Y:a≠b:=by
      rintro rfl
      rcases H with H|H
      ·exact H (yn ..)
      ·rw[H x W]at M;cases M
     rw[N (H.imp (λh hr=>h (yk _ hr)) id),yp Y]
   |false=>
    simp only[yg];obtain⟨V,N,U⟩:=eU mem r m b O;refine⟨λy K J H=>?_,λH=>N (H.imp (λh hr=>h (yk _ hr)) id),U⟩;have:b≠a:=by rintro rfl;rw[W]at K;simp at K;subst K;rw[J]at M;cases M
    exact V y K J (by simp at H;exact H.resolve_left this)
  ·rename_i Z;obtain⟨V,N,U⟩:=eU mem r m b O;refine⟨λy K J H=>?_,λH=>N (H.imp (λh hr=>h (yk _ hr)) id),U⟩;have:b≠a:=by rintro rfl;exact Z y K
   exact V y K J (by simp at H;exact H.resolve_left this)
theorem jR.shut{G:Gh}{w:World}{B a:Nat}{r:bC}(S:Nat->Nat->Prop)(h:jR G w B a r)(ho:r.isOwn=true)(hok:r.okShut=true)(hS: ∀i c B',c6 w B r i c B'->∀o,S B' o):jR (G.frz S) w B a r.shut:=by
 cases r with
 |own e xs hs=>
  cases hs with
  |cons _ _=>cases hok
  |nil=>
   obtain⟨_,hl,hc⟩:=h;refine⟨hl,λi x c y N h2=>?_⟩;obtain⟨v,hv,Z,hp⟩:=hc i x c y N h2;refine⟨v,hv,Z,?_⟩;rcases hp with ⟨u,rfl,rfl⟩|⟨row,H,hp⟩
   ·exact .lit _ Z
   ·have W: ∀B' M n cap,v= .slice (some ⟨B',M,none⟩) n cap->∀o,S B' o:=λB' M n cap hvv=>hS i c B' ⟨⟨x,y,row,N,h2,H⟩,rfl,M,n,cap,by rw[hv,hvv]⟩;cases y with
    |ints k ys=>
     obtain rfl:=yb H;rcases hp with ⟨rfl,h0⟩|⟨B',M,cap,rfl,U,J,_,_,_,_,hr,_⟩
     ·obtain rfl:=yu h0;exact .intsNil k _
     ·exact .ints k ys B' M cap J λj z hz=>⟨hr j z hz,.inr (W B' _ _ _ rfl _)⟩
    |sl e' ys=>
     simp only[dG]at H;rw[aA]at H;obtain⟨he,H⟩:=H;obtain rfl:=yb H;rcases hp with ⟨rfl,h0⟩|⟨B',M,cap,rfl,U,J,_,_,_,_,hr,_⟩
     ·obtain rfl:=yu h0;exact .slNil e' _
     ·obtain⟨hr1,K⟩:=hr;obtain rfl:=U rfl;refine .sl e' ys B' 0 cap (λi c=>(cl w B' (i*e'+c)).getD undef) (dA.1 he) J hr1 (λj z c q V Y=>?_) (λj z c q V Y=>?_) (λj z c q V Y=>?_)
      ·obtain⟨u,O,_,_⟩:=K j z c q V Y;rw[ye1];exact⟨by rw[O];rfl,.inr (W B' _ _ _ rfl _)⟩
      ·obtain⟨u,O,N,_⟩:=K j z c q V Y;rw[O];exact N
      ·obtain⟨u,O,_,N⟩:=K j z c q V Y;rw[O];exact N.mono (λ_ _ h=> .inl h) (λ_ _ _=>rfl)
    |lit u=>simp[dG]at H
    |agg cs=>simp[dG]at H
 |_=>cases ho
theorem aJ.freeze{G:Gh}{w:World}{mem:aO}(hM:aJ G w mem)(ids:List Nat):aJ (G.frz (bA G w mem ids)) w (aR mem (cM mem ids)):=by
 have hg:=dH.frz G (bA G w mem ids) hM.inBoxes;have M: ∀(b:Nat) (y:bV),(aR mem (cM mem ids))[b]?=some (some y)->∃x,mem[b]?=some (some x)/\y.gen=x.gen/\((b∈ids/\x.row.okShut=true/\y.frz=true/\y.row=x.row.shut)\/((b∉ids\/x.row.okShut=false)/\y=x)):=by
  intro b y h;obtain⟨i1,i2,_⟩:=eU mem ids mem b rfl;by_cases hl: ∃x,mem[b]?=some (some x)
  ·obtain⟨x,J⟩:=hl;by_cases Y:b∈ids/\x.row.okShut=true
   ·rw[i1 x J Y.2 Y.1]at h;simp at h;subst h;exact⟨x,J,rfl,.inl ⟨Y.1,Y.2,rfl,rfl⟩⟩
   ·have O:b∉ids\/x.row.okShut=false:=by
     by_cases h1:b∈ids
     ·exact .inr (by cases h2:x.row.okShut<;>simp_all)
     ·exact .inl h1
    rw[i2 (O.imp id (λh x' K=>by rw[J]at K;simp at K;subst K;exact h)),J]at h;simp at h;subst h;exact⟨x,J,rfl,.inr ⟨O,rfl⟩⟩
  ·rw[i2 (.inr (λx J=>absurd ⟨x,J⟩ hl))]at h;exact absurd ⟨y,h⟩ hl
 have W: ∀{b:Nat} {x y:bV} {B:Nat},y.gen=x.gen->fP (G.frz (bA G w mem ids)) b y B->fP G b x B:=by
  rintro b x y B hge ⟨L,hl,hB⟩;exact⟨L,by rw[<-hge];exact hl,hB⟩
 -- blocks of a box that stays as it is are not among those
 have hout: ∀{b:Nat} {x:bV} {B B':Nat},mem[b]?=some (some x)->(b∉ids\/x.row.okShut=false)->fP G b x B->(B'=B\/∃i c,c6 w B x.row i c B')->∀o,¬bA G w mem ids B' o:=by
  intro b x B B' J O hB h o hin;obtain⟨b2,hb2,x2,C,hx2,hok2,hC,h2⟩:=hin;have hne:b2≠b:=by
   rintro rfl
   rw[J]at hx2;simp at hx2;subst hx2;rcases O with h|h
   ·exact h hb2
   ·rw[hok2]at h;cases h
  have hO:lR G w mem b B':=⟨b2,x2,C,hne,hx2,hC,h2⟩
  rcases h with rfl|⟨i,c,V⟩
  ·exact hM.other_ne J hB hO rfl
  ·exact hM.other_inn J hB V hO
 refine⟨λb y h=>?_,λb g h=>?_,λb y g h hlt=>?_,λb b' y y' L L' B h h' l l' k k'=>?_,λb b' y y' B i c B' h k V h' k'=>?_,λb b' y y' B C i c i' c' B' h k V h' k' hi'=>?_,hM.own,λB o h=>?_,fun β B o h=>?_,hM.glob.mono (hg.prot true) λ_ _ _=>rfl⟩
 ·obtain⟨x,J,N,hc⟩:=M b y h;have Y:=hM.box b x J;obtain⟨o,a0,hl,ha0,hm⟩:=Y.loc;rcases hc with ⟨hb1,hok,hf,H⟩|⟨O,rfl⟩
  ·refine⟨by rw[H,Tw];exact Y.e,o,a0,by rw[N,H,Tw,Nr];exact hl,by rw[H,SW];exact ha0,?_⟩;cases o with
   |none=>rw[H,Nr,QG];exact hm
   |some B=>
    obtain⟨h1,h2,h3,h4,h5⟩:=hm;have hB:fP G b x B:=⟨_,hl,rfl⟩
    refine⟨h1,h2,h3,?_,λhff=>by rw[hf]at hff;cases hff⟩;rw[H];cases how:x.row.isOwn with
    |true=>exact h4.shut _ how hok λi c B' V o=>⟨b,hb1,x,B,J,hok,hB,.inr ⟨i,c,V⟩⟩
    |false=>rw[Vu how];exact h4.mono hg (Ev.refl G w) (λ_ _=>rfl) λi c B' V=>by rw[V.own]at how;cases how
  ·refine⟨Y.e,o,a0,hl,ha0,?_⟩;cases o with
   |none=>exact hm
   |some B=>
    obtain⟨h1,h2,h3,h4,h5⟩:=hm;have hB:fP G b y B:=⟨_,hl,rfl⟩
    refine⟨h1,h2,h3,h4.mono hg (Ev.refl G w) (λ_ _=>rfl) (λi c B' V=>⟨.of rfl,fun β o Z=>?_⟩),λhf β o Z=>?_⟩
    ·rcases Z with Z|Z
     ·exact(hM.inn J hB V).2.2.2 β o Z
     ·exact hout J O hB (.inr ⟨i,c,V⟩) o Z
    ·rcases Z with Z|Z
     ·exact h5 hf β o Z
     ·exact hout J O hB (.inl rfl) o Z
 ·refine hM.unset b g λx J=>?_;obtain⟨i1,i2,_⟩:=eU mem ids mem b rfl;by_cases Y:b∈ids/\x.row.okShut=true
  ·exact h _ (i1 x J Y.2 Y.1)
  ·have O:b∉ids\/∀x':bV,mem[b]?=some (some x')->x'.row.okShut=false:=by
    by_cases h1:b∈ids
    ·exact .inr λx' K=>by rw[J]at K;simp at K;subst K;cases h2:x.row.okShut<;>simp_all
    ·exact .inl h1
   exact h x (by rw[i2 O];exact J)
 ·obtain⟨x,J,N,hc⟩:=M b y h;exact hM.gens b x g J (by rw[<-N];exact hlt)
 ·obtain⟨x,J,N,hc⟩:=M b y h;obtain⟨x',K,U,hc'⟩:=M b' y' h';rw[N]at l;rw[U]at l';exact hM.apart b b' x x' L L' B J K l l' k k'
 ·obtain⟨x,J,N,hc⟩:=M b y h;obtain⟨x',K,U,hc'⟩:=M b' y' h';rcases hc with ⟨_,_,_,H⟩|⟨_,rfl⟩
  ·have:=V.own;rw[H,HS]at this;cases this
  ·exact hM.inA b b' y x' B i c B' J (W rfl k) V K (W U k')
 ·obtain⟨x,J,N,hc⟩:=M b y h;obtain⟨x',K,U,hc'⟩:=M b' y' h';rcases hc with ⟨_,_,_,H⟩|⟨_,rfl⟩
  ·have:=V.own;rw[H,HS]at this;cases this
  ·rcases hc' with ⟨_,_,_,H⟩|⟨_,rfl⟩
   ·have:=hi'.own;rw[H,HS]at this;cases this
   ·exact hM.inB b b' y y' B C i c i' c' B' J (W rfl k) V K (W rfl k') hi'
 ·rcases h with h|h
  ·exact .inl (hM.lab B o h)
  ·exact .inr h
 ·rcases h with h|h
  ·exact hM.away β B o h
  ·exact hM.inBoxes_lt B o h
section
variable {P:Program}
theorem v6{α β:Type}{f:α->Option (Bool×β×List Nat)}: ∀{xs:List α} {r:Bool×List β×List Nat},i7 f xs=some r->
  r.2.1.length=xs.length/\∀(i:Nat) (x:α),xs[i]?=some x->∃q,f x=some q/\r.2.1[i]?=some q.2.1/\(∀b∈q.2.2,b∈r.2.2)/\(r.1=false->q.1=false)
 | [],r,h=>by simp[i7]at h;subst h;exact⟨rfl,λi x H=>by simp at H⟩
 |v::xs,r,h=>by
  simp only[i7]at h;rw[bind_some]at h;obtain⟨a,Y,h⟩:=h;rw[bind_some]at h;obtain⟨q,V,h⟩:=h;obtain rfl:=yb h;obtain⟨W,U⟩:=v6 V;refine⟨by simp[W],λi x H=>?_⟩;cases i with
  |zero=>simp at H;subst H;exact⟨a,Y,rfl,λb J=>yc2 _ J,λh=>by simp at h;exact h.1⟩
  |succ i=>
   obtain⟨Z,O,M,K,N⟩:=U i x (by simpa using H);exact⟨Z,O,by simpa using M,λb J=>ye2 _ (K b J),λh=>N (by simp at h;exact h.2)⟩
theorem Ae{α β γ:Type}{f:γ->α->Option (Bool×β×List Nat)}: ∀{ls:List γ} {xs:List α} {r:Bool×List β×List Nat},cP f ls xs=some r->
  r.2.1.length=xs.length/\ls.length=xs.length/\∀(i:Nat) (x:α),xs[i]?=some x->∃l q,ls[i]?=some l/\f l x=some q/\r.2.1[i]?=some q.2.1/\(∀b∈q.2.2,b∈r.2.2)/\(r.1=false->q.1=false)
 | [],[],r,h=>by simp[cP]at h;subst h;exact⟨rfl,rfl,λi x H=>by simp at H⟩
 |l::ls,v::xs,r,h=>by
  simp only[cP]at h;rw[bind_some]at h;obtain⟨a,ha,h⟩:=h;rw[bind_some]at h;obtain⟨q,Y,h⟩:=h;obtain rfl:=yb h;obtain⟨hl,K,W⟩:=Ae Y;refine⟨by simp[hl],by simp[K],λi x H=>?_⟩;cases i with
  |zero=>simp at H;subst H;exact⟨l,a,rfl,ha,rfl,λb J=>yc2 _ J,λh=>by simp at h;exact h.1⟩
  |succ i=>
   obtain⟨Z,q',N,V,O,M,U⟩:=W i x (by simpa using H);exact⟨Z,q',by simpa using N,V,by simpa using O,λb J=>ye2 _ (M b J),λh=>U (by simp at h;exact h.2)⟩
 | [],_::_,r,h=>by simp[cP]at h
 |_::_,[],r,h=>by simp[cP]at h
theorem BY{α:Type}{e:Nat}: ∀{n:Nat} {cs:List α} {i:Nat},i<n->(chunks e n cs)[i]?=some ((cs.drop (i*e)).take e)
 |n+1,cs,0,h=>by simp[chunks]
 |n+1,cs,i+1,h=>by
  simp only[chunks,yo1];rw[BY (by omega),List.drop_drop];congr 3;rw[yz1];omega
theorem iL{α:Type}{e:Nat}: ∀{n:Nat} {cs:List α},(chunks e n cs).length=n
 |0,cs=>rfl
 |n+1,cs=>by simp[chunks,iL]
theorem sub_zero{r:bC}{o:Nat}{v:aP}(h:r.sub o 0=some v):(∃k,v= .ints k [])\/(∃β e,v= .pvs β e [])\/(∃e,v= .avs e []):=by
 cases r<;>simp only[bC.sub]at h<;>first|(cases h;done)|skip<;>rw[aA]at h<;>obtain⟨_,h⟩:=h<;>obtain rfl:=yb h<;>simp
theorem PR.intsZ{w:World}{H:Nat->Nat->Prop}(k:IntKind)(a:Option Addr)(K: ∀x,a=some x->x.spot=none):PR w H (.ints k []) (.slice a 0 0):=by
 cases a with
 |none=>exact .intsNil k _
 |some a=>obtain⟨B,o,s⟩:=a;obtain rfl:=K _ rfl;exact .ints k [] B o 0 (by simp) (λi x J=>by simp at J)
theorem PR.slZ{w:World}{J:Nat->Nat->Prop}{e:Nat}(M:1≤e)(a:Option Addr)(K: ∀x,a=some x->x.spot=none):PR w J (.sl e []) (.slice a 0 0):=by
 cases a with
 |none=>exact .slNil e _
 |some a=>obtain⟨B,o,s⟩:=a;obtain rfl:=K _ rfl;exact .sl e [] B o 0 (λ_ _=>undef) M (by simp) (λx H=>by simp at H) (λi x c y H=>by simp at H) (λi x c y H=>by simp at H) (λi x c y H=>by simp at H)
theorem TU{r:bC}{o n:Nat}{v:aP}(h:r.sub o n=some v):v.e=r.e:=by
 cases r<;>simp only[bC.sub]at h<;>first|(cases h;done)|skip<;>rw[aA]at h<;>obtain⟨_,h⟩:=h<;>obtain rfl:=yb h<;>rfl
theorem BI{k:IntKind}{b:Nat}{v:aP}{r:Bool×PV×List Nat}(h:bM.treeInts k b v=some r)(J:(∃k,v= .ints k [])\/(∃β e,v= .pvs β e [])\/(∃e,v= .avs e [])):
  ∃H,True/\r=(false,.ints H [],[b]):=by
 rcases J with ⟨H,rfl⟩|⟨β,e,rfl⟩|⟨e,rfl⟩
 ·simp only[bM.treeInts]at h;rw[aA]at h;obtain⟨_,h⟩:=h;exact⟨H,trivial,(yb h).symm⟩
 ·simp[bM.treeInts]at h
 ·simp only[bM.treeInts]at h;rw[aA]at h;obtain⟨_,h⟩:=h;simp[gP]at h;exact⟨k,trivial,h.symm⟩
theorem GU{f:LK->AV->Option (Bool×PV×List Nat)}{t:TypeId}{e b:Nat}{v:aP}{r:Bool×PV×List Nat}(h:bM.treeSl P f t e b v=some r)(K:(∃k,v= .ints k [])\/(∃β e,v= .pvs β e [])\/(∃e,v= .avs e [])):
  ∃β,v.e=e/\r=(β,.sl e [],[b]):=by
 rcases K with ⟨k',rfl⟩|⟨β,J,rfl⟩|⟨J,rfl⟩
 ·simp[bM.treeSl]at h
 ·simp only[bM.treeSl]at h;rw[aA]at h;obtain⟨H,h⟩:=h;obtain rfl:=bZ.1 H;exact⟨β,rfl,(yb h).symm⟩
 ·simp only[bM.treeSl]at h;rw[aA]at h;obtain⟨H,h⟩:=h;simp only[yc]at H;obtain rfl:=bZ.1 H.1;rw[bind_some]at h;obtain⟨ls,_,h⟩:=h;have:aY e ([]:List AV).length=0:=by
   have:=jI (n:=0) (dA.1 H.2) 0;simpa using this
  rw[this]at h;simp[chunks,i7]at h;exact⟨false,rfl,h.symm⟩
theorem B1{G:Gh}{w:World}{mem:aO}(hM:aJ G w mem): ∀{n:Nat} {l:LK} {v:AV} {r:Bool×PV×List Nat} {cv:Value},bM P mem n l v=some r->VR G w v cv->
  PR w ((G.frz (bA G w mem r.2.2)).prot r.1) r.2.1 cv/\cv.oneCell'=true/\r.2.1.cells= [r.2.1]
 |0,l,v,r,cv,h,hv=>by simp[bM]at h
 |n+1,l,v,r,cv,h,hv=>by
  have frzPR: ∀{ids:List Nat} {β:Bool} {p:PV} {u:Value},PR w (G.prot β) p u->PR w ((G.frz (bA G w mem ids)).prot β) p u:=λY=>Y.mono (λ_ _ h=> .inl h) (λ_ _ _=>rfl);have hints: ∀{k:IntKind} {b:Nat} {x:bV} {wv:aP} {q:Bool×PV×List Nat} {vs:List Value} {B o cap a:Nat},mem[b]?=some (some x)->x.row.isOwn=false->G.loc b x.gen=some ⟨some B,x.row.e,x.row.len,a⟩->bM.treeInts k b wv=some q->
    bW G w wv vs->(∀j u,vs[j]?=some u->cl w B (o+j)=some u)->wv.len≤cap->
    PR w ((G.frz (bA G w mem q.2.2)).prot q.1) q.2.1 (.slice (some ⟨B,o,none⟩) wv.len cap)/\q.2.1.cells= [q.2.1]:=by
   intro k b x wv q vs B o cap a H how hl N U M hcap;have hin: ∀o',bA G w mem [b] B o':=λo'=> .one (yi1.2 rfl) H how hl rfl;unfold bM.treeInts at N;split at N
   ·rename_i k' xs;rw[aA]at N;obtain⟨hk,N⟩:=N;obtain rfl:=yb N;obtain⟨hlen,_,hh⟩:=U;exact⟨.ints k' xs B o cap hcap (λi y O=>⟨M _ _ (hh i y O),.inr (hin _)⟩),rfl⟩
   ·rename_i e cs;rw[aA]at N;obtain⟨he,N⟩:=N;obtain rfl:=bZ.1 he;obtain⟨xs,hxs,rfl⟩:=yf.1 N;obtain⟨hlen,_,hcnt,hh⟩:=U;have key: ∀{cs:List AV} {xs:List Int},gP k cs=some xs->xs.length=cs.length/\∀(i:Nat) (y:Int),xs[i]?=some y->cs[i]?=some (.lit (.int k y)):=by
     intro cs
     induction cs with
     |nil=>intro xs h;simp[gP]at h;subst h;exact⟨rfl,λi y O=>by simp at O⟩
     |cons c cs ih=>
      intro xs h;have hc: ∃k' z,c= .lit (.int k' z):=by
       cases c with
       |lit v=>cases v with
        |int k' z=>exact⟨k',z,rfl⟩
        |_=>simp[gP]at h
       |_=>simp[gP]at h
      obtain⟨k',z,rfl⟩:=hc;simp only[gP]at h;cases hk:jS k k' with
      |false=>rw[hk]at h;simp at h
      |true=>
       rw[hk]at h;rw[l6]at hk;subst hk;simp only[yh]at h;obtain⟨xs',h1,rfl⟩:=yf.1 h;obtain⟨i1,i2⟩:=ih h1;refine⟨by simp[i1],λi y O=>?_⟩;cases i with
       |zero=>simp at O;subst O;rfl
       |succ i=>simpa using i2 i y (by simpa using O)
    obtain⟨k1,k2⟩:=key hxs;have hle:aP.len (.avs 1 cs)=xs.length:=by rw[k1];rfl
    rw[hle];refine⟨.ints k xs B o cap (by rw[<-hle];exact hcap) (λi y O=>?_),rfl⟩;obtain⟨u,J,Y⟩:=hh i _ (k2 i y O);obtain rfl:=Y.lit_inv;exact⟨M _ _ J,.inr (hin _)⟩
   ·simp at N
  have hsl: ∀{t:TypeId} {e b:Nat} {x:bV} {wv:aP} {q:Bool×PV×List Nat} {vs:List Value} {B o cap a:Nat},mem[b]?=some (some x)->x.row.isOwn=false->G.loc b x.gen=some ⟨some B,x.row.e,x.row.len,a⟩->bM.treeSl P (bM P mem n) t e b wv=some q->
    1≤wv.e->bW G w wv vs->(∀j u,vs[j]?=some u->cl w B (o+j)=some u)->wv.len≤cap->
    PR w ((G.frz (bA G w mem q.2.2)).prot q.1) q.2.1 (.slice (some ⟨B,o,none⟩) wv.len cap)/\q.2.1.cells= [q.2.1]:=by
   intro t e b x wv q vs B o cap a H how hl N he1 U M hcap;have hin: ∀ids o',b∈ids->bA G w mem ids B o':=λids o' hb=> .one hb H how hl rfl;unfold bM.treeSl at N;split at N
   ·rename_i β e' xs;rw[aA]at N;obtain⟨he,N⟩:=N;obtain rfl:=bZ.1 he;obtain rfl:=yb N;obtain⟨hlen,h1,hh1,hh2⟩:=U;refine⟨.sl e xs B o cap (λi c=>vs.getD (i*e+c) undef) he1 hcap hh1 (λi x c y H O=>?_) (λi x c y H O=>?_) (λi x c y H O=>?_),rfl⟩
    ·obtain⟨u,J,Y⟩:=hh2 i x c y H O;rw[ym,J];exact⟨by rw[yk2];exact M _ _ J,.inr (hin _ _ (yi1.2 rfl))⟩
    ·obtain⟨u,J,Y⟩:=hh2 i x c y H O;rw[ym,J];exact h1 u (yj J)
    ·obtain⟨u,J,Y⟩:=hh2 i x c y H O;rw[ym,J];exact frzPR Y
   ·rename_i e' cs;rw[aA]at N;obtain⟨he,N⟩:=N;simp only[yc]at he;obtain rfl:=bZ.1 he.1;rw[bind_some]at N;obtain⟨ls,hls,N⟩:=N;obtain⟨r0,hr0,rfl⟩:=yf.1 N;obtain⟨hlen,h1,hcnt,hh⟩:=U;obtain⟨fl,ff⟩:=v6 hr0;rw[iL]at fl;have hcs:cs.length=aY e cs.length*e:=by rw[yb3];exact hcnt
    -- element i
    have hel: ∀i p,r0.2.1[i]?=some p->i<aY e cs.length/\p.cells.length=e/\∀c y,p.cells[c]?=some y->∃u,vs[i*e+c]?=some u/\PR w ((G.frz (bA G w mem (b::r0.2.2))).prot r0.1) y u:=by
     intro i p Y;have hi:i<aY e cs.length:=by rw[<-fl];exact(yd.1 Y).1
     obtain⟨q1,hq1,hp1,hb1,hlab1⟩:=ff i _ (BY hi);rw[Y]at hp1;obtain rfl:=yb hp1;rw[bind_some]at hq1;obtain⟨q2,hq2,hq1⟩:=hq1;obtain⟨p',hp',rfl⟩:=yf.1 hq1;obtain⟨zl,zl2,zz⟩:=Ae hq2;have hchl:((cs.drop (i*e)).take e).length=e:=by
      have h2:i*e+e≤cs.length:=by
       rw[hcs]
       calc i*e+e=(i+1)*e:=by rw[yz1];simp
        _≤_:=yr2 _ hi
      simp;omega
     have W:p'.cells=q2.2.1:=by
      unfold zU at hp';split at hp'
      ·obtain rfl:=yb hp';rfl
      ·split at hp'
       ·rename_i c heq;obtain rfl:=yb hp'
        -- a single cell: what bM answers is no struct
        have hlen1:((cs.drop (i*e)).take e).length=1:=by rw[<-zl,heq];rfl
        obtain⟨lk,q3,_,h3,h4,_⟩:=zz 0 (((cs.drop (i*e)).take e)[0]'(by omega)) (ye _);have hcell0:cs[i*e]?=some (((cs.drop (i*e)).take e)[0]'(by omega)):=by
         have:=ye (l:=(cs.drop (i*e)).take e) (i:=0) (by omega);rw[yu1 (by omega),yg1]at this;simp
        obtain⟨u,J,hvr⟩:=hh _ _ hcell0;have hone:=(B1 hM h3 hvr).2.2;rw[heq]at h4;simp only[yj3,Option.some.injEq]at h4;rw[heq,h4];exact hone
       ·simp at hp'
      ·simp at hp'
     refine⟨hi,by rw[W,zl,hchl],λc y O=>?_⟩;rw[W]at O;have hc:c<e:=by have:=(yd.1 O).1;rw[zl,hchl]at this;exact this
     obtain⟨lk,q3,_,h3,h4,h5,h6⟩:=zz c (((cs.drop (i*e)).take e)[c]'(by omega)) (ye _);have hcell:cs[i*e+c]?=some (((cs.drop (i*e)).take e)[c]'(by omega)):=by
      have:=ye (l:=(cs.drop (i*e)).take e) (i:=c) (by omega);rw[yu1 (by omega),yg1]at this;simp
     obtain⟨u,J,hvr⟩:=hh _ _ hcell;have hpr:=(B1 hM h3 hvr).1;rw[O]at h4;obtain rfl:=yb h4;refine⟨u,J,hpr.mono (λB' o' hh=>?_) (λ_ _ _=>rfl)⟩;rcases hh with hh|hh
     ·left;cases hb:r0.1 with
      |false=>rw[h6 (hlab1 hb)]at hh;exact hh
      |true=>
       cases hq3:q3.1 with
       |false=>rw[hq3]at hh;exact hM.lab _ _ hh
       |true=>rw[hq3]at hh;exact hh
     ·exact .inr (hh.mono λb' hb'=>yk _ (hb1 b' (h5 b' hb')))
    have hwl:aP.len (.avs e cs)=r0.2.1.length:=by rw[fl];rfl
    rw[hwl];refine⟨.sl e r0.2.1 B o cap (λi c=>vs.getD (i*e+c) undef) he1 (by rw[<-hwl];exact hcap) (λx H=>?_) (λi x c y H O=>?_) (λi x c y H O=>?_) (λi x c y H O=>?_),rfl⟩
    ·obtain⟨i,hi,rfl⟩:=yb2 H;exact(hel i _ (ye hi)).2.1
    ·obtain⟨u,J,Y⟩:=(hel i x H).2.2 c y O;rw[ym,J];exact⟨by rw[yk2];exact M _ _ J,.inr (hin _ _ (yn ..))⟩
    ·obtain⟨u,J,Y⟩:=(hel i x H).2.2 c y O;rw[ym,J];exact h1 u (yj J)
    ·obtain⟨u,J,Y⟩:=(hel i x H).2.2 c y O;rw[ym,J];exact Y
   ·simp at N
  unfold bM at h;split at h
  ·rename_i k k' x;rw[aA]at h;obtain⟨hk,h⟩:=h;obtain rfl:=yb h;obtain rfl:=hv.lit_inv;exact⟨.lit _ rfl,rfl,rfl⟩
  ·obtain rfl:=yb h;obtain rfl:=hv.lit_inv;exact⟨.lit _ rfl,rfl,rfl⟩
  ·obtain rfl:=yb h;obtain rfl:=hv.lit_inv;exact⟨.lit _ rfl,rfl,rfl⟩
  ·rename_i k β k' xs;rw[aA]at h;obtain⟨hk,h⟩:=h;obtain rfl:=yb h;cases hv with
   |imm _ _ _ Y hs=>exact⟨frzPR Y,by cases Y<;>rfl,rfl⟩
  ·rename_i k;obtain rfl:=yb h;obtain rfl:=hv.lit_inv;exact⟨.intsNil k _,rfl,rfl⟩
  ·rename_i k b g;rw[bind_some]at h;obtain⟨x,H,h⟩:=h;have K:=(box?_some H)
   have he:=(hM.box b x K.1).e;rcases hM.at_msw H hv with ⟨B,a0,cap,rfl,hn,hl,ha0,hf,_,_,_,V,_⟩|⟨rfl,hz,hnc,_,hl⟩
   ·obtain⟨vs,hvs,M⟩:=V.toList he (box?_own H) ha0;have:=hints (o:=a0) (cap:=cap) K.1 (box?_own H) (by rw[K.2];exact hl) h hvs (λj u J=>by rw[M _ (yd.1 J).1];exact J) (by rw[eL];exact hn);rw[eL]at this;exact⟨this.1,rfl,this.2⟩
   ·unfold bM.treeInts at h;obtain⟨gen,frz,row⟩:=x;cases row with
    |ints k' xs=>
     simp only[bC.len]at hz;have:=yu hz;subst this;simp only[bC.all]at h;rw[aA]at h;obtain⟨hk,h⟩:=h;obtain rfl:=yb h;exact⟨.intsNil _ _,rfl,rfl⟩
    |pvs β e xs=>simp[bC.all]at h
    |cells e cs=>simp[bC.isCells]at hnc
    |own e xs hs=>exact absurd (box?_own H) (by simp[bC.isOwn])
  ·rename_i k b g o m;rw[bind_some]at h;obtain⟨x,H,h⟩:=h;rw[bind_some]at h;obtain⟨wv,Z,h⟩:=h;have K:=(box?_some H)
   have he:=(hM.box b x K.1).e;rcases hM.at_ms H hv with ⟨B,a0,cap,rfl,hn,hon,hl,ha0,hf,_,_,_,V,_⟩|⟨rfl,rfl,rfl,hz,_,hl⟩|⟨B,oo,rfl,ho,rfl,hon,_,hl⟩
   ·obtain⟨vs,hvs,M⟩:=V.toList he (box?_own H) ha0;obtain⟨hv',hve,hvl,_⟩:=A0 he Z hvs
    have:=hints (o:=a0+o*x.row.e) (cap:=cap) K.1 (box?_own H) (by rw[K.2];exact hl) h hv' (λj u J=>by
     have hj:j<m*x.row.e:=by have:=(yd.1 J).1;rw[hv'.1,hve,hvl]at this;exact this
     rw[yu1 hj,yg1]at J
     rw[yk2,M _ (yd.1 J).1];exact J) (by rw[hvl];exact hn)
    rw[hvl]at this;exact⟨this.1,rfl,this.2⟩
   ·obtain⟨k',hk',hr⟩:=BI h (sub_zero Z);rw[hr];exact⟨PR.intsZ k' none (by simp),rfl,rfl⟩
   ·obtain⟨k',hk',hr⟩:=BI h (sub_zero Z);rw[hr];exact⟨PR.intsZ k' (some ⟨B,oo,none⟩) (by simp),rfl,rfl⟩
  ·rename_i t e β e' xs;rw[aA]at h;obtain⟨hk,h⟩:=h;obtain rfl:=yb h;cases hv with
   |imm _ _ _ Y hs=>exact⟨frzPR Y,by cases Y<;>rfl,rfl⟩
  ·rename_i t e;obtain rfl:=yb h;obtain rfl:=hv.lit_inv;exact⟨.slNil e _,rfl,rfl⟩
  ·rename_i t e b g;rw[bind_some]at h;obtain⟨x,H,h⟩:=h;have K:=(box?_some H)
   have he:=(hM.box b x K.1).e;rcases hM.at_msw H hv with ⟨B,a0,cap,rfl,hn,hl,ha0,hf,_,_,_,V,_⟩|⟨rfl,hz,hnc,_,hl⟩
   ·obtain⟨vs,hvs,M⟩:=V.toList he (box?_own H) ha0;have:=hsl (o:=a0) (cap:=cap) K.1 (box?_own H) (by rw[K.2];exact hl) h (by rw[sI];exact he) hvs (λj u J=>by rw[M _ (yd.1 J).1];exact J) (by rw[eL];exact hn);rw[eL]at this;exact⟨this.1,rfl,this.2⟩
   ·unfold bM.treeSl at h;obtain⟨gen,frz,row⟩:=x;cases row with
    |ints k' xs=>simp[bC.all]at h
    |pvs β e' xs=>
     simp only[bC.len]at hz;have:=yu hz;subst this;simp only[bC.all]at h;rw[aA]at h;obtain⟨hk,h⟩:=h;obtain rfl:=yb h;exact⟨.slNil _ _,rfl,rfl⟩
    |cells e cs=>simp[bC.isCells]at hnc
    |own e xs hs=>exact absurd (box?_own H) (by simp[bC.isOwn])
  ·rename_i t e b g o m;rw[bind_some]at h;obtain⟨x,H,h⟩:=h;rw[bind_some]at h;obtain⟨wv,Z,h⟩:=h;have K:=(box?_some H)
   have he:=(hM.box b x K.1).e;rcases hM.at_ms H hv with ⟨B,a0,cap,rfl,hn,hon,hl,ha0,hf,_,_,_,V,_⟩|⟨rfl,rfl,rfl,hz,_,hl⟩|⟨B,oo,rfl,ho,rfl,hon,_,hl⟩
   ·obtain⟨vs,hvs,M⟩:=V.toList he (box?_own H) ha0;obtain⟨hv',hve,hvl,_⟩:=A0 he Z hvs
    have:=hsl (o:=a0+o*x.row.e) (cap:=cap) K.1 (box?_own H) (by rw[K.2];exact hl) h (by rw[hve];exact he) hv' (λj u J=>by
     have hj:j<m*x.row.e:=by have:=(yd.1 J).1;rw[hv'.1,hve,hvl]at this;exact this
     rw[yu1 hj,yg1]at J
     rw[yk2,M _ (yd.1 J).1];exact J) (by rw[hvl];exact hn)
    rw[hvl]at this;exact⟨this.1,rfl,this.2⟩
   ·have he':=TU Z;obtain⟨e',hk',hr⟩:=GU h (sub_zero Z);rw[hr];exact⟨PR.slZ (by omega) none (by simp),rfl,rfl⟩
   ·have he':=TU Z;obtain⟨e',hk',hr⟩:=GU h (sub_zero Z);rw[hr];exact⟨PR.slZ (by omega) (some ⟨B,oo,none⟩) (by simp),rfl,rfl⟩
  ·simp at h
end
end Go.Ab
end
section
namespace Go.Ab
variable [cS]
section
variable {P:Program}
theorem eB{mem:aO}{v:AV}{rd:List Nat}{b:Nat}{x:bV}:({v,rd,wr:= [(b,x)]}:dY).apply mem=mem.set b (some x):=by simp[dY.apply,aR]
theorem sD(mem:aO): ∀(a b:List (Nat×bV)),aR mem (a++b)=aR (aR mem a) b
 | [],b=>rfl
 |(i,x)::a,b=>by simp only[yo3,aR];exact sD (mem.set i (some x)) a b
theorem RN{mem:aO}{v:AV}{rd ids:List Nat}{b:Nat}{x:bV}:({v,rd,wr:=cM mem ids++ [(b,x)]}:dY).apply mem=(aR mem (cM mem ids)).set b (some x):=by
 simp[dY.apply,sD,aR]
theorem Ja{mem:aO}{v:AV}{q:Nat×Nat×List PV}(h:rC mem v=some q): ∃g x xs,((v= .msw q.1 g/\q.2.2=xs)\/∃n,v= .ms q.1 g 0 n/\n≤xs.length/\q.2.2=xs.take n)/\mem[q.1]?=some (some x)/\x.gen=g/\x.row= .own q.2.1 xs []/\x.frz=false:=by
 unfold rC at h;split at h
 ·rename_i b g;rw[bind_some]at h;obtain⟨x,J,h⟩:=h;obtain⟨K,H,_⟩:=boxO?_some J;split at h
  ·rename_i e xs hr;rw[aA]at h;obtain⟨hf,h⟩:=h;obtain rfl:=yb h;exact⟨g,x,xs,.inl ⟨rfl,rfl⟩,K,H,hr,by simpa using hf⟩
  ·cases h
 ·rename_i b g n;rw[bind_some]at h;obtain⟨x,J,h⟩:=h;obtain⟨K,H,_⟩:=boxO?_some J;split at h
  ·rename_i e xs hr;rw[aA]at h;obtain⟨hf,h⟩:=h;simp only[yc,yx]at hf;obtain rfl:=yb h;exact⟨g,x,xs,.inr ⟨n,rfl,dA.1 hf.2,rfl⟩,K,H,hr,hf.1⟩
  ·cases h
 ·cases h
theorem TG{G:Gh}{w:World}{mem:aO}(hM:aJ G w mem){b g e:Nat}{x:bV}{xs:List PV}{cv:Value}(S:Nat->Nat->Prop)(hm:mem[b]?=some (some x))(hg:x.gen=g)(H:x.row= .own e xs [])(hv:VR G w (.msw b g) cv)
  (hS: ∀B B' o,fP G b x B->(B'=B\/∃i c,c6 w B x.row i c B')->S B' o):PR w ((G.frz S).prot false) (.sl e xs) cv/\cv.oneCell'=true:=by
 subst hg;have Z:=(hM.box b x hm).e;cases hv with
 |msw _ _ cap L B Y hb hn hf=>
  have hB:fP G b x B:=⟨L,Y,hb⟩
  obtain⟨a0,K,O,M,N,h3,h4,h5⟩:=hM.blk hm hB;rw[Y]at K;obtain rfl:=yb K;obtain rfl:=O (by rw[H];rfl);have W:=h4.shut S (by rw[H];rfl) (by rw[H];rfl) (λi c B' hi o=>hS B B' o hB (.inr ⟨i,c,hi⟩));rw[H]at W hn Z⊢
  obtain⟨V,J⟩:=W;refine⟨.sl e xs B 0 cap (λi c=>(cl w B (i*e+c)).getD undef) Z hn V (λi x' c y M N=>?_) (λi x' c y M N=>?_) (λi x' c y M N=>?_),rfl⟩
  ·obtain⟨u,U,_,_⟩:=J i x' c y M N;rw[ye1];exact⟨by rw[U];rfl,.inr (hS B B _ hB (.inl rfl))⟩
  ·obtain⟨u,U,M,_⟩:=J i x' c y M N;rw[U];exact M
  ·obtain⟨u,U,_,M⟩:=J i x' c y M N;rw[U];exact M
 |mswNil _ _ L Y hb hn=>
  obtain⟨o,a0,K,O,hmm⟩:=(hM.box b x hm).loc;rw[Y]at K;obtain rfl:=yb K;rw[H]at hn;obtain rfl:=yu hn;exact⟨.slNil e _,rfl⟩
theorem SL{G:Gh}{w:World}{mem:aO}(hM:aJ G w mem){b g e n:Nat}{x:bV}{xs:List PV}{cv:Value}(S:Nat->Nat->Prop)(hm:mem[b]?=some (some x))(hg:x.gen=g)(J:x.row= .own e xs [])(hn:n≤xs.length)(hv:VR G w (.ms b g 0 n) cv)
  (hS: ∀B B' o,fP G b x B->(B'=B\/∃i c,c6 w B x.row i c B')->S B' o):PR w ((G.frz S).prot false) (.sl e (xs.take n)) cv/\cv.oneCell'=true:=by
 subst hg;have he:=(hM.box b x hm).e;cases hv with
 |ms _ _ _ _ cap L B hl hb hn' hon hf=>
  have hB:fP G b x B:=⟨L,hl,hb⟩
  obtain⟨a0,Z,ha0,M,N,h3,h4,h5⟩:=hM.blk hm hB;rw[hl]at Z;obtain rfl:=yb Z;obtain rfl:=ha0 (by rw[J];rfl);have Y:=h4.shut S (by rw[J];rfl) (by rw[J];rfl) (λi c B' hi o=>hS B B' o hB (.inr ⟨i,c,hi⟩));rw[J]at Y he⊢
  obtain⟨W,H⟩:=Y;have K: ∀{i:Nat} {x':PV},(xs.take n)[i]?=some x'->xs[i]?=some x':=by
   intro i x' h;rw[yy1]at h;split at h
   ·exact h
   ·cases h
  have V:(xs.take n).length=n:=by rw[yj2];omega
  have hz:0*x.row.e=0:=ys3 _;have O:PR w ((G.frz S).prot false) (.sl e (xs.take n)) (.slice (some ⟨B,0,none⟩) (xs.take n).length cap):=by
   refine .sl e (xs.take n) B 0 cap (λi c=>(cl w B (i*e+c)).getD undef) he (by rw[V];exact hn') (λy hy=>W y (yk3 hy)) (λi x' c y M N=>?_) (λi x' c y M N=>?_) (λi x' c y M N=>?_)
   ·obtain⟨u,U,_,_⟩:=H i x' c y (K M) N;rw[ye1];exact⟨by rw[U];rfl,.inr (hS B B _ hB (.inl rfl))⟩
   ·obtain⟨u,U,M,_⟩:=H i x' c y (K M) N;rw[U];exact M
   ·obtain⟨u,U,_,M⟩:=H i x' c y (K M) N;rw[U];exact M
  rw[V]at O;rw[ys3,ye1];exact⟨O,rfl⟩
 |msNil _ _ L hl hb=>exact⟨.slNil e _,rfl⟩
 |msZ _ _ _ B oo L hl hb ho hon=>omega
theorem GN{G:Gh}{w:World}{mem:aO}(hM:aJ G w mem){l:LK}{v:AV}{r:Bool×PV×List Nat}{cv:Value}(h:lS P mem l v=some r)(N:VR G w v cv):
  PR w ((G.frz (bA G w mem r.2.2)).prot r.1) r.2.1 cv/\cv.oneCell'=true/\r.2.1.cells= [r.2.1]:=by
 unfold lS at h;split at h
 ·rename_i q V;split at h
  ·rw[aA]at h;obtain⟨W,h⟩:=h;obtain rfl:=bZ.1 W;obtain rfl:=yb h;obtain⟨g,x,xs,O,hm,U,H,hf⟩:=Ja V;rcases O with ⟨rfl,J⟩|⟨n,rfl,hn,J⟩
   ·obtain⟨M,K⟩:=TG hM (bA G w mem [q.1]) hm U H N (λB B' o hB h=>⟨q.1,yi1.2 rfl,x,B,hm,by rw[H];rfl,hB,h⟩);simp only[J];exact⟨M,K,rfl⟩
   ·obtain⟨M,K⟩:=SL hM (bA G w mem [q.1]) hm U H hn N (λB B' o hB h=>⟨q.1,yi1.2 rfl,x,B,hm,by rw[H];rfl,hB,h⟩);simp only[J];exact⟨M,K,rfl⟩
  ·cases h
 ·exact B1 hM h N
theorem vP{G:Gh}{w:World}{mem:aO}(hM:aJ G w mem){t:TypeId}{v:AV}{r:Bool×PV×List Nat}{cv:Value}(h:yQ P mem t v=some r)(hv:VR G w v cv):
  r.2.1.cells.length=v.cells.length/\∀(j:Nat) (y:PV),r.2.1.cells[j]?=some y->∃u,cv.cells.toList[j]?=some u/\PR w ((G.frz (bA G w mem r.2.2)).prot r.1) y u/\u.oneCell'=true:=by
 unfold yQ at h;rw[bind_some]at h;obtain⟨ls,hls,h⟩:=h;rw[bind_some]at h;obtain⟨q,hq,h⟩:=h;obtain⟨p,K,rfl⟩:=yf.1 h;obtain⟨zl,zl2,zz⟩:=Ae hq;have hc:=hv.cells;have M: ∀(j:Nat) (y:PV),q.2.1[j]?=some y->∃u,cv.cells.toList[j]?=some u/\PR w ((G.frz (bA G w mem q.2.2)).prot q.1) y u/\u.oneCell'=true/\y.cells= [y]:=by
  intro j y W;have Z:j<v.cells.length:=by rw[<-zl];exact(yd.1 W).1
  obtain⟨lk,q3,_,Y,h4,h5,h6⟩:=zz j (v.cells[j]) (ye Z);rw[W]at h4;obtain rfl:=yb h4;have O:j<cv.cells.toList.length:=by rw[<-hc.1];exact Z
  have U:=hc.2 j _ (ye Z);rw[ym,ye O]at U;obtain⟨t1,t2,t3⟩:=GN hM Y U;refine⟨_,ye O,t1.mono (λB' o' H=>?_) (λ_ _ _=>rfl),t2,t3⟩;rcases H with H|H
  ·left;cases hb:q.1 with
   |false=>rw[h6 hb]at H;exact H
   |true=>
    cases V:q3.1 with
    |false=>rw[V]at H;exact hM.lab _ _ H
    |true=>rw[V]at H;exact H
  ·exact .inr (H.mono h5)
 have J:p.cells=q.2.1:=by
  unfold zU at K;split at K
  ·obtain rfl:=yb K;rfl
  ·split at K
   ·rename_i c N;obtain rfl:=yb K;obtain⟨u,_,_,_,h⟩:=M 0 c (by rw[N];rfl);rw[N];exact h
   ·simp at K
  ·simp at K
 simp only;rw[J];exact⟨zl,λj y W=>by obtain⟨u,h1,h2,Y,_⟩:=M j y W;exact⟨u,h1,h2,Y⟩⟩
theorem bW.ofLRs{G:Gh}{w:World}{e:Nat}{cs:List AV}{vs:List Value}(h:kI G w cs vs)(K:lX cs=true)(hc:cs.length=aY e cs.length*e):bW G w (.avs e cs) vs:=by
 refine⟨by rw[<-h.1];exact hc,h.ones K,by rw[yb3];exact hc,λj y H=>?_⟩;have J:j<vs.length:=by rw[<-h.1];exact(yd.1 H).1
 have:=h.2 j y H;rw[ym,ye J]at this;exact⟨_,ye J,this⟩
theorem Jy{G:Gh}{w:World}{mem:aO}{b:Nat}{row:bC}{vs:List Value}{rest:Array Value}{t:TypeId}(hM:aJ G w mem)(V:mem[b]?=some none)(Z:1≤row.e)(H:row.isOwn=false)
  (hv:bW G w row.all vs): ∃K,K=G.put b 0 ⟨some w.heap.size,row.e,row.len,0⟩/\dH G K/\Ev G w (w.alloc (.cells (vs.toArray++rest) t))/\
   aJ K (w.alloc (.cells (vs.toArray++rest) t)) (mem.set b (some {gen:=0,frz:=false,row}))/\K.loc b 0=some ⟨some w.heap.size,row.e,row.len,0⟩:=by
 have M:G.loc b 0=none:=hM.unset b 0 (λx N=>by rw[V]at N;cases N);have O:dH G (G.put b 0 ⟨some w.heap.size,row.e,row.len,0⟩):=dH.put (.inl M);have J:=Ev.alloc G w (.cells (vs.toArray++rest) t) hM.away;refine⟨_,rfl,O,J,hM.make V Z (jR.ofList H (λ_=>rfl) (hv.mono O J) (λj u U=>?_)) (λi c B' Y=>by rw[Y.own]at H;cases H),Gh.put_self ..⟩;rw[ye1,mO];have W:=(yd.1 U).1;rw[ym3 (by simpa using W)];simpa using U
theorem IV(t:TypeId)(c:Array Value)(w:World):(newRow t c).run P w= .ok ⟨w.heap.size,0,none⟩ (w.alloc (.cells c t)):=by
 simp[newRow]
theorem QX{G:Gh}{w:World}{mem:aO}{b n:Nat}{v:AV}{cv:Value}{t:TypeId}(hM:aJ G w mem)(U:mem[b]?=some none)(N:VR G w v cv)(hn:v.cells.length=n)(h1:1≤n)(O:lX v.cells=true):
  ∃K,dH G K/\Ev G w (w.alloc (.cells cv.cells t))/\aJ K (w.alloc (.cells cv.cells t)) (mem.set b (some {gen:=0,frz:=false,row:= .cells 1 v.cells}))/\
   VR K (w.alloc (.cells cv.cells t)) (.ptr b 0 0 0) (.pointer (some ⟨w.heap.size,0,none⟩)):=by
 have hc:v.cells.length=aY 1 v.cells.length*1:=by simp[aY,Nat.beq]
 obtain⟨K,rfl,M,H,J,V⟩:=Jy (row:= .cells 1 v.cells) (vs:=cv.cells.toList) (rest:= #[]) (t:=t) hM U (yb1 1) rfl (bW.ofLRs N.cells O hc);simp only[yx2,Array.append_empty]at H J;refine⟨_,M,H,J,?_⟩;have:=VR.ptr (G:=G.put b 0 ⟨some w.heap.size,(bC.cells 1 v.cells).e,(bC.cells 1 v.cells).len,0⟩) (w:=w.alloc (.cells cv.cells t)) b 0 0 0 _ w.heap.size V rfl;simpa using this
theorem Qf{G:Gh}{w:World}{mem:aO}{o:Oper}{a:Act}{t:TypeId}{rs:Nat}{z:AV}(hM:aJ G w mem)(ho:o.op= .alloc t)(O:mem[rs]?=some none)(V:zero? P t=some z)
  (W:1≤z.cells.length) (H:lX z.cells=true):
  nI P G w mem o a {v:= .ptr rs 0 0 0,wr:= [(rs,{gen:=0,frz:=false,row:= .cells 1 z.cells})]}:=by
 obtain⟨zv,K,J,_⟩:=N5 V G w;obtain⟨Z,U,M,N,Y⟩:=QX (t:=t) hM O J rfl W H;refine⟨Z,_,_,_,?_,.inl rfl,Y,U,M,by rw[eB];exact N⟩;simp[execOp,ho,Instr.alloc,K,newVar,IV]
theorem T3{G:Gh}{w:World}{mem:aO}{o:Oper}{a:Act}{t:TypeId}{x:Operand}{rs n:Nat}{v:AV}(hM:aJ G w mem)(Y:o.op= .box t x)(N:mem[rs]?=some none)(V:VR G w v (a.eval x))
  (hn:v.cells.length=n) (U:1≤n) (H:lX v.cells=true):
  nI P G w mem o a {v:= .ptr rs 0 0 0,wr:= [(rs,{gen:=0,frz:=false,row:= .cells 1 v.cells})]}:=by
 obtain⟨W,O,K,M,J⟩:=QX (t:=t) hM N V hn U H;refine⟨W,_,_,_,?_,.inl rfl,J,O,K,by rw[eB];exact M⟩;simp[execOp,Y,Instr.box,newVar,IV]
theorem Ee{t:TypeId}{n B o:Nat}{cv:Value}{w:World}(hn:k8 P t=some n)(H:cv.cells.size=n)(hc: ∀j,j<n->(cl w B (o+j)).isSome=true)(hf: ∀j,j<n->w.frozen? ⟨B,o+j,none⟩=false)
  (K: ∀u∈cv.cells.toList,u.oneCell'=true):(storeVar t ⟨B,o,none⟩ cv).run P w= .ok () (w.setCells B o cv.cells.toList):=by
 have J:=run_storeCells_cells (P:=P) B o cv.cells.toList 0 w (by simpa[H]using hc) (by simpa[H]using hf) K;rw[ya2]at J;simp only[storeVar,Sem.run_bind,fN hn,Result.andThen_ok,Sem.run_ite,H,ne_eq,not_true_eq_false,if_false,Sem.run_pure,J]
theorem nR: ∀{xs vs:List Value} {o j:Nat},o+xs.length≤vs.length->(bN vs o xs)[j]?=if o≤j/\j<o+xs.length then xs[j-o]? else vs[j]?
 | [],vs,o,j,h=>by simp[bN];omega
 |x::xs,vs,o,j,h=>by
  simp only[bN];simp only[yw]at h;rw[nR (xs:=xs) (by simp;omega)];by_cases H:o+1≤j/\j<o+1+xs.length
  ·rw[if_pos H,if_pos (by simp;omega),show j-o=(j-(o+1))+1 by omega,yo1]
  ·rw[if_neg H];by_cases J:j=o
   ·subst J;rw[if_pos (by simp),yt (by omega)];simp
   ·rw[yp (by omega),if_neg (by simp;omega)]
theorem KW.sub{G:Gh}{w K:World}{mem:aO}{b:Nat}{x x':bV}{L:Gi}{B:Nat}(hM:aJ G w mem)(H:mem[b]?=some (some x))(hB:fP G b x B)(hL:L.blk=some B)
  (W: ∀B',lR G w mem b B'->K.heap[B']?=w.heap[B']?) (M: ∀i c B',c6 K B x'.row i c B'->c6 w B x.row i c B'):KW G w K mem b x' L:=by
 have VQ: ∀{C},L.blk=some C->C=B:=λh=>by rw[hL]at h;exact(yb h).symm
 refine⟨W,λC hC hO=>?_,λC hC i c B' J=>?_,λC hC i c O U B' J N=>?_⟩
 ·obtain rfl:=VQ hC;exact hM.other_ne H hB hO rfl
 ·obtain rfl:=VQ hC;have J:=M i c B' J;refine⟨hM.other_inn H hB J,?_⟩
  rintro rfl
  exact hM.inA b b x x _ i c _ H hB J H hB
 ·obtain rfl:=VQ hC;obtain⟨_,h,V⟩:=hM.inB b b x x _ _ i c O U B' H hB (M i c B' J) H hB (M O U B' N);exact⟨h,V⟩
theorem KU{G:Gh}{w:World}{mem:aO}{b:Nat}{x:bV}{B a:Nat}{row':bC}{o:Nat}{xs:List Value}(hM:aJ G w mem)(M:mem[b]?=some (some x))(U:G.loc b x.gen=some ⟨some B,x.row.e,x.row.len,a⟩)
  (O:x.frz=false) (J: ∀j,j<xs.length->(cl w B (o+j)).isSome=true) (he:row'.e=x.row.e) (N:row'.len=x.row.len) (W:row'.isInts=false->a=0)
  (hr:Ev G w (w.setCells B o xs)->jR G (w.setCells B o xs) B a row') (Y: ∀i c B',c6 (w.setCells B o xs) B row' i c B'->c6 w B x.row i c B'):
  Ev G w (w.setCells B o xs)/\aJ G (w.setCells B o xs) (mem.set b (some {x with row:=row'})):=by
 have hb:=hM.box b x M;have hB:fP G b x B:=⟨_,U,rfl⟩
 obtain⟨_,hl',_,h1,h2,h3,h4,Z⟩:=hM.blk M hB;have K:=Ev.setCells (G:=G) (vs:=xs) h1 J (Z O);have V:b<mem.length:=(yd.1 M).1;refine⟨K,?_⟩;have H:G.put b x.gen ⟨some B,x.row.e,x.row.len,a⟩=G:=by
  unfold Gh.put;congr 1;funext b' g';split
  ·rename_i hh;obtain⟨rfl,rfl⟩:=hh;exact U.symm
  ·rfl
 have:=hM.upd (x':={x with row:=row'}) (L:=⟨some B,x.row.e,x.row.len,a⟩) K V (.inr U) (.sub hM M hB rfl (λB' hO=>eF (w:=w) (hM.other_ne M hB hO) xs o w) Y) (λg hg=>hM.gens b x g M hg) ?_
 ·rw[H]at this;exact this
 ·rw[H];exact⟨by show 1≤row'.e;rw[he];exact hb.e,some B,a,by show G.loc b x.gen=some ⟨some B,row'.e,row'.len,a⟩;rw[he,N];exact U,W,h1,by rw[nX];exact h2,h3.setCells,hr K,Z⟩
theorem FD{G:Gh}{w:World}{mem:aO}{b:Nat}{x:bV}{B a:Nat}{row':bC}{vs:List Value}{o:Nat}{xs:List Value}(hM:aJ G w mem)(Y:mem[b]?=some (some x))(hl:G.loc b x.gen=some ⟨some B,x.row.e,x.row.len,a⟩)
  (U:x.frz=false) (N: ∀j,j<vs.length->cl w B (a+j)=vs[j]?) (ho:o+xs.length≤vs.length) (he:row'.e=x.row.e) (O:row'.len=x.row.len) (M:row'.isInts=false->a=0) (J:row'.isOwn=false)
  (hv:bW G w row'.all (bN vs o xs)):
  Ev G w (w.setCells B (a+o) xs)/\aJ G (w.setCells B (a+o) xs) (mem.set b (some {x with row:=row'})):=by
 have H: ∀j,j<xs.length->(cl w B (a+o+j)).isSome=true:=by
  intro j hj;rw[yk2,N _ (by omega),ye (by omega)];rfl
 refine KU hM Y hl U H he O M (λV=>jR.ofList J M (hv.mono (dH.refl G) V) (λj u K=>?_)) (λi c B' Z=>by rw[Z.own]at J;cases J);rw[nR ho]at K;by_cases W:o≤j/\j<o+xs.length
 ·rw[if_pos W]at K;obtain⟨k,rfl⟩: ∃k,j=o+k:=⟨j-o,by omega⟩
  rw[<-yk2,mB H (by omega)];rw[yy3,ye (by omega)]at K;exact K
 ·rw[if_neg W]at K;rw[kY (by omega),N _ (yd.1 K).1];exact K
end
end Go.Ab
end
section
namespace Go.Ab
variable [cS]
theorem sX{b:Nat}: ∀{l:List Nat},eY b l=true↔b∈l
 | []=>by simp[eY]
 |m::r=>by simp only[eY,yh2,bZ,yk1,sX (l:=r)];constructor<;>rintro(h|h)<;>first|exact .inl h.symm|exact .inr h
theorem Iv: ∀{xs vs:List PV} {o j:Nat},o+xs.length≤vs.length->(sA vs o xs)[j]?=if o≤j/\j<o+xs.length then xs[j-o]? else vs[j]?
 | [],vs,o,j,h=>by simp[sA];omega
 |x::xs,vs,o,j,h=>by
  simp only[sA];simp only[yw]at h;rw[Iv (xs:=xs) (by simp;omega)];by_cases H:o+1≤j/\j<o+1+xs.length
  ·rw[if_pos H,if_pos (by simp;omega),show j-o=(j-(o+1))+1 by omega,yo1]
  ·rw[if_neg H];by_cases J:j=o
   ·subst J;rw[if_pos (by simp),yt (by omega)];simp
   ·rw[yp (by omega),if_neg (by simp;omega)]
section
variable {P:Program}
theorem LO{G:Gh}{w:World}{mem:aO}{t:TypeId}{a x:AV}{out:dY}{ca cx:Value}(hM:aJ G w mem)(h:lF P t mem a x=some out)(ha:VR G w a ca)(hx:VR G w x cx):
  out.v= .lit undef/\∃G' w',(Instr.storeAt t ca cx).run P w= .ok () w'/\dH G G'/\Ev G w w'/\aJ G' w' (out.apply mem):=by
 unfold lF at h;split at h
 ·rename_i b g i c;rw[bind_some]at h;obtain⟨bx,hbx,h⟩:=h;rw[bind_some]at h;obtain⟨n,hn,h⟩:=h;rw[aA]at h;obtain⟨Z,h⟩:=h;simp only[yc,yx]at Z;obtain⟨V,M⟩:=Z;have M:=bZ.1 M;obtain⟨hm,hgen⟩:=box?_some hbx;obtain⟨B,a0,rfl,hl,ha0,hmine,hB,hfz,hrow,hpr⟩:=hM.at_ptr hbx ha;have he:=(hM.box b bx hm).e;obtain⟨vs,hvs,hcl⟩:=hrow.toList he (box?_own hbx) ha0;have hxc:=hx.cells;have hsz:cx.cells.size=n:=by rw[<-M];simpa using hxc.1.symm
  have hrun: ∀o,o+n≤vs.length->(∀u∈cx.cells.toList,u.oneCell'=true)->(Instr.storeAt t (.pointer (some ⟨B,a0+o,none⟩)) cx).run P w= .ok () (w.setCells B (a0+o) cx.cells.toList):=by
   intro o ho h1;have hsome: ∀j,j<n->(cl w B (a0+o+j)).isSome=true:=λj N=>by rw[yk2,hcl _ (by omega),ye (by omega)];rfl
   have:=Ee (P:=P) hn hsz hsome (λj N=>hfz.cell (hsome j N)) h1;simp[Instr.storeAt,Instr.sureAddr,this]
  obtain⟨gen,frz,row⟩:=bx;simp only at V hgen hl hvs hcl he ha0;subst hgen;split at h
  ·rename_i e cs W;simp only at W;subst W;rw[aA]at h;obtain⟨hc,h⟩:=h;simp only[yc]at hc;have hle:=dA.1 hc.1;obtain rfl:=yb h;refine⟨rfl,?_⟩;obtain⟨O,hv1,hcnt,hvv⟩:=hvs;have hcl2:vs.length=cs.length:=by rw[O];show aY e cs.length*e=cs.length;rw[yb3];exact hcnt.symm
   have hL:kI G w cs vs:=⟨hcl2.symm,λj y K=>by obtain⟨u,Y,hp⟩:=hvv j y K;rw[ym,Y];exact hp⟩
   have J:=hxc.ones hc.2;have hnew:=hL.setCells (i:=i*e+c) hxc;have H:bW G w (.avs e (setCells cs (i*e+c) x.cells)) (bN vs (i*e+c) cx.cells.toList):=by
    have hsl:(setCells cs (i*e+c) x.cells).length=cs.length:=oP (as:=cs);refine⟨?_,λu Y=>?_,by rw[hsl];exact hcnt,λj y K=>?_⟩
    ·show _=aY e (setCells cs (i*e+c) x.cells).length*e;rw[kE,hsl,hcl2,yb3];exact hcnt
    ·obtain⟨j,N,rfl⟩:=yb2 Y;have Z:=nR (xs:=cx.cells.toList) (vs:=vs) (o:=i*e+c) (j:=j) (by simp[hsz];omega);rw[ye N]at Z;split at Z
     ·exact J _ (yj Z.symm)
     ·exact hv1 _ (yj Z.symm)
    ·have N:j<(bN vs (i*e+c) cx.cells.toList).length:=by rw[<-hnew.1];exact(yd.1 K).1
     have:=hnew.2 j y K;rw[ym,ye N]at this;exact⟨_,ye N,this⟩
   have hsl:(setCells cs (i*e+c) x.cells).length=cs.length:=oP (as:=cs);obtain⟨hev,hM'⟩:=FD (row':= .cells e (setCells cs (i*e+c) x.cells)) (o:=i*e+c) (xs:=cx.cells.toList) hM hm hl V hcl (by simp[hsz];omega) rfl (by simp only[bC.len];rw[hsl]) (λ_=>ha0 rfl) rfl H;exact⟨G,_,hrun _ (by show i*e+c+n≤_;omega) J,dH.refl G,hev,by rw[eB];exact hM'⟩
  ·rename_i k xs W;simp only at W;subst W;split at h
   ·rename_i k' z _;rw[aA]at h;obtain⟨hc,h⟩:=h;simp only[yc]at hc;obtain⟨⟨hk,hc0⟩,hi⟩:=hc;rw[l6]at hk;subst hk;obtain rfl:=bZ.1 hc0;have hi:=dA.1 hi;obtain rfl:=yb h;refine⟨rfl,?_⟩;obtain rfl:=hx.lit_inv;obtain⟨O,hv1,hvv⟩:=hvs;simp only[bC.all,aP.len,aP.e,yt3]at O;have hcells:(Value.int k z).cells.toList= [Value.int k z]:=rfl;have H:bW G w (.ints k (xs.set i z)) (bN vs i [Value.int k z]):=by
     refine⟨by simp[aP.len,aP.e,kE,O],λu Y=>?_,λj y K=>?_⟩
     ·simp only[bN]at Y;rcases ym2 Y with h|h
      ·exact hv1 u h
      ·rw[h];rfl
     ·simp only[bN];by_cases e:j=i
      ·subst e;rw[yt (by omega)]at K⊢
       simp at K;rw[K]
      ·rw[yp (λx=>e x.symm)]at K⊢
       exact hvv j y K
    have hn1:n=1:=by rw[<-M];rfl
    subst hn1;obtain⟨hev,hM'⟩:=FD (row':= .ints k (xs.set i z)) (o:=i) (xs:= [Value.int k z]) hM hm hl V hcl (by simp;omega) rfl (by simp[bC.len]) (λh=>by cases h) rfl H;refine⟨G,_,?_,dH.refl G,hev,by rw[eB];exact hM'⟩;have:=hrun i (by omega) (by simp[hcells,Value.oneCell']);rw[hcells]at this;have e0:i*(bC.ints k xs).e+0=i:=by simp[bC.e]
    rw[e0];exact this
   ·simp at h
  ·rename_i β e xs W;simp only at W;subst W;rw[bind_some]at h;obtain⟨p,hp,h⟩:=h;rw[bind_some]at h;obtain⟨q,hq,h⟩:=h;rw[aA]at h;obtain⟨hc,h⟩:=h;simp only[yc,yx]at hc;obtain⟨⟨hce,hpl⟩,hnb⟩:=hc;have hce:=dA.1 hce;have hpl:=bZ.1 hpl;have hnb:b∉q.2.2:=λhh=>by rw[sX.2 hh]at hnb;cases hnb
   obtain rfl:=yb h;refine⟨rfl,?_⟩;obtain⟨ql,qq⟩:=vP hM hq hx;have hM1:=hM.freeze q.2.2;have hg1:=dH.frz G (bA G w mem q.2.2) hM.inBoxes;have hm1:(aR mem (cM mem q.2.2))[b]?=some (some ⟨gen,frz,.pvs β e xs⟩):=by
    rw[(eU mem q.2.2 mem b rfl).2.1 (.inl hnb)];exact hm
   have hvs1:bW (G.frz (bA G w mem q.2.2)) w (.pvs β e xs) vs:=hvs.mono hg1 (Ev.refl G w);obtain⟨O,hv1,hxl,hvv⟩:=hvs1;simp only[aP.len,aP.e]at O;simp only[bC.e]at he;have hi:=(yd.1 hp).1;have hpos:i*e+c+n≤vs.length:=by
    rw[O]
    calc i*e+c+n≤i*e+e:=by omega
     _=(i+1)*e:=by rw[yz1];simp
     _≤xs.length*e:=yr2 _ hi
   have J: ∀u∈cx.cells.toList,u.oneCell'=true:=by
    intro u Y;obtain⟨j,N,rfl⟩:=yb2 Y;have hj2:j<q.2.1.cells.length:=by rw[ql,hxc.1];exact N
    obtain⟨u',hu',_,h1⟩:=qq j _ (ye hj2);rw[ye N]at hu';obtain rfl:=yb hu';exact h1
   generalize hp':(bif n.beq e&&c.beq 0 then q.2.1 else PV.agg (sA p.cells c q.2.1.cells))=p';have hp'c: ∀(j:Nat),p'.cells[j]?=if c≤j/\j<c+n then q.2.1.cells[j-c]? else p.cells[j]?:=by
    intro j;have hqn:q.2.1.cells.length=n:=by rw[ql,M]
    cases U:(n.beq e&&c.beq 0)with
    |true=>
     rw[U]at hp';simp only[yh]at hp';subst hp';simp only[yc]at U;obtain rfl:=bZ.1 U.1;obtain rfl:=bZ.1 U.2;by_cases N:j<n
     ·rw[if_pos (by omega)];simp
     ·rw[if_neg (by omega),yc1 (by omega),yc1 (by omega)]
    |false=>
     rw[U]at hp';simp only[yg]at hp';subst hp'
     show(sA p.cells c q.2.1.cells)[j]?=_
     rw[Iv (by omega),hqn]
   have hp'l:p'.cells.length=e:=by
    have h1:p'.cells[e]?=none:=by rw[hp'c,if_neg (by omega),yc1 (by omega)]
    have h2: ∃y,p'.cells[e-1]?=some y:=by
     rw[hp'c];split
     ·rename_i hh;exact⟨_,ye (by rw[ql,M];omega)⟩
     ·exact⟨_,ye (by omega)⟩
    obtain⟨y,K⟩:=h2;have:=(yd.1 K).1;have:=List.getElem?_eq_none_iff.1 h1;omega
   have H:bW (G.frz (bA G w mem q.2.2)) w (.pvs (β||q.1) e (xs.set i p')) (bN vs (i*e+c) cx.cells.toList):=by
    have Z:=λj=>nR (xs:=cx.cells.toList) (vs:=vs) (o:=i*e+c) (j:=j) (by simp[hsz];omega);have hlab1:=hM1.lab;refine⟨by simp[aP.len,aP.e,kE,O],λu Y=>?_,λx hx=>?_,λi' x c' y hx K=>?_⟩
    ·obtain⟨j,N,rfl⟩:=yb2 Y;have Z:=Z j;rw[ye N]at Z;split at Z
     ·exact J _ (yj Z.symm)
     ·exact hv1 _ (yj Z.symm)
    ·rcases ym2 hx with h|h
     ·exact hxl x h
     ·rw[h];exact hp'l
    ·have hc'e:c'<e:=by
      have h0:=(yd.1 K).1;have:x.cells.length=e:=by
       rcases ym2 (yj hx)with h|h
       ·exact hxl x h
       ·rw[h];exact hp'l
      omega
     rw[Z];simp only[yi2,hsz];by_cases hii:i'=i
     ·subst hii;rw[yt hi]at hx;obtain rfl:=yb hx;rw[hp'c]at K;by_cases U:c≤c'/\c'<c+n
      ·rw[if_pos U]at K;rw[if_pos (by omega),show i'*e+c'-(i'*e+c)=c'-c by omega];obtain⟨u,Y,hpu,_⟩:=qq _ y K;exact⟨u,Y,hpu.weak' hlab1⟩
      ·rw[if_neg U]at K;rw[if_neg (by omega)];obtain⟨u,Y,hpu⟩:=hvv i' p c' y hp K;exact⟨u,Y,hpu.weak hlab1⟩
     ·rw[yp (λx=>hii x.symm)]at hx;obtain⟨u,Y,hpu⟩:=hvv i' x c' y hx K;refine⟨u,?_,hpu.weak hlab1⟩;rw[if_neg ?_]
      ·exact Y
      ·rintro⟨h1,h2⟩
       rcases Nat.lt_or_gt_of_ne hii with hlt|hlt
       ·have:i'*e+e≤i*e:=by
         calc i'*e+e=(i'+1)*e:=by rw[yz1];simp
          _≤i*e:=yr2 _ hlt
        omega
       ·have:i*e+e≤i'*e:=by
         calc i*e+e=(i+1)*e:=by rw[yz1];simp
          _≤i'*e:=yr2 _ hlt
        omega
   obtain⟨hev,hM'⟩:=FD (row':= .pvs (β||q.1) e (xs.set i p')) (o:=i*e+c) (xs:=cx.cells.toList) hM1 hm1 hl V hcl (by simp[hsz];omega) rfl (by simp[bC.len]) (λ_=>ha0 rfl) rfl H;refine⟨_,_,hrun _ (by show i*e+c+n≤_;omega) J,hg1,?_,by rw[RN];exact hM'⟩;have hjj: ∀j,j<cx.cells.toList.length->i*e+c+j<vs.length:=λj N=>by simp[hsz]at N;omega
   exact Ev.setCells hmine (λj N=>by show(cl w B (a0+(i*e+c)+j)).isSome=true;rw[yk2,hcl _ (hjj j N),ye (hjj j N)];rfl) (hpr V)
  ·cases h
 ·simp at h
end
end Go.Ab
end
section
namespace Go.Ab
variable [cS]
section
variable {P:Program}
structure FL (P:Program) (t et:TypeId) (s:Nat) (i:TypeInfo) (z:Value):Prop where
 under:P.underlying t=some (.slice et)
 info:P.info? et=some i
 size:i.size=s
 zero:i.zero=some z
 zsize:z.cells.size=s
 bytes:i.bytes≤4096
 one:1≤s
theorem Ax{n bytes:Nat}(hn:n≤bU)(H:bytes≤4096):n*bytes≤140737488355328:=by
 have:n*bytes≤n*4096:=Nat.mul_le_mul_left n H;unfold bU at hn;omega
structure zC (G:Gh) (w:World) (mem:aO) (b g':Nat) (row':bC) (Bold:Option Nat) (vs:List Value):Prop where
 row: ∀(w1:World) (B' a:Nat),(row'.isInts=false->a=0)->Ev G w w1->(∀X,X<w.heap.size->Bold≠some X->w1.heap[X]?=w.heap[X]?)->(∀j u,vs[j]?=some u->cl w1 B' (a+j)=some u)->jR (G.put b g' ⟨some B',row'.e,row'.len,a⟩) w1 B' a row'
 inn: ∀(w1:World) (B' a i c X:Nat),(row'.isInts=false->a=0)->(∀j u,vs[j]?=some u->cl w1 B' (a+j)=some u)->c6 w1 B' row' i c X->∃(x:bV) (B:Nat),mem[b]?=some (some x)/\fP G b x B/\c6 w B x.row i c X
theorem zC.plain{G:Gh}{w:World}{mem:aO}{b g':Nat}{row':bC}{Bold:Option Nat}{vs:List Value}(J:G.loc b g'=none)(K:row'.isOwn=false)(O:bW G w row'.all vs):zC G w mem b g' row' Bold vs:=
 ⟨λN B' a U M _ H=>jR.ofList K U (O.mono (dH.put (.inl J)) M) H,λN B' a i c X _ _ h=>by rw[h.own]at K;cases K⟩
theorem NU{G:Gh}{w M:World}{mem:aO}{b g':Nat}{row':bC}{B' a:Nat}{Bold:Option Nat}{vs:List Value}(K:row'.isInts=false->a=0)(hM:aJ G w mem)(hb:b<mem.length)(hev:Ev G w M)(V: ∀g,g'≤g->G.loc b g=none)
  (he:1≤row'.e) (Y:G.mine B') (hlt:B'<M.heap.size) (hfz:jA M B') (hpr: ∀β o,¬G.prot β B' o)
  (H: ∀X,X<w.heap.size->Bold≠some X->M.heap[X]?=w.heap[X]?) (Z: ∀X,lR G w mem b X->Bold≠some X) (J:B'=w.heap.size\/∃x,mem[b]?=some (some x)/\fP G b x B'/\Bold=some B')
  (hv:zC G w mem b g' row' Bold vs) (N: ∀j u,vs[j]?=some u->cl M B' (a+j)=some u):
  ∃G',dH G G'/\G'.loc b g'=some ⟨some B',row'.e,row'.len,a⟩/\aJ G' M (mem.set b (some {gen:=g',frz:=false,row:=row'})):=by
 have hg:dH G (G.put b g' ⟨some B',row'.e,row'.len,a⟩):=dH.put (.inl (V g' (yb1 _)));have hBne: ∀X,lR G w mem b X->X≠B':=by
  intro X hO;rcases J with rfl|⟨x,U,hB,_⟩
  ·exact Nat.ne_of_lt (hM.other hO).2.1
  ·exact hM.other_ne U hB hO
 refine⟨_,hg,Gh.put_self ..,hM.upd (x':={gen:=g',frz:=false,row:=row'}) hev hb (.inl (V g' (yb1 _))) ⟨λX hO=>H X (hM.other hO).2.1 (Z X hO),λC hC hO=>?_,λC hC i c X hi=>?_,λC hC i c i2 c2 X hi W=>?_⟩ (λg hg=>V g (Nat.le_of_lt hg)) ?_⟩
 ·simp only[Option.some.injEq]at hC;subst hC;exact hBne _ hO rfl
 ·simp only[Option.some.injEq]at hC;subst hC;obtain⟨x,B,U,hB,O⟩:=hv.inn M B' a i c X K N hi;refine⟨hM.other_inn U hB O,?_⟩;rcases J with hp|⟨x',hx',hB',_⟩
  ·rw[hp];exact Nat.ne_of_lt (hM.inn U hB O).2.1
  ·intro hXB;rw[hXB]at O;exact hM.inA b b x x' B i c _ U hB O hx' hB'
 ·simp only[Option.some.injEq]at hC;subst hC;obtain⟨x,B,U,hB,hi⟩:=hv.inn M B' a i c X K N hi;obtain⟨x2,B2,hx2,hB2,W⟩:=hv.inn M B' a i2 c2 X K N W;exact(hM.inB b b x x2 B B2 i c i2 c2 X U hB hi hx2 hB2 W).2
 ·exact⟨he,some B',a,Gh.put_self ..,K,Y,hlt,hfz,hv.row M B' a K hev H N,λ_=>hpr⟩
theorem Ff{G:Gh}{w:World}{mem:aO}{b g':Nat}{row':bC}(hM:aJ G w mem)(M:b<mem.length)(H: ∀g,g'≤g->G.loc b g=none)
  (N:1≤row'.e) (O:row'.len=0) (hc:row'.isCells=false):
  ∃J,dH G J/\J.loc b g'=some ⟨none,row'.e,row'.len,0⟩/\aJ J w (mem.set b (some {gen:=g',frz:=false,row:=row'})):=by
 have K:dH G (G.put b g' ⟨none,row'.e,row'.len,0⟩):=dH.put (.inl (H g' (yb1 _)));refine⟨_,K,Gh.put_self ..,hM.upd (x':={gen:=g',frz:=false,row:=row'}) (Ev.refl G w) M (.inl (H g' (yb1 _))) ⟨λ_ _=>rfl,λ_ h=>(nomatch h),λ_ h=>(nomatch h),λ_ h=>(nomatch h)⟩ (λg K=>H g (Nat.le_of_lt K)) ?_⟩;exact⟨N,none,0,Gh.put_self ..,λ_=>rfl,O,hc⟩
theorem s7(w:World)(c:Array Value)(t:TypeId):(∀B,B<w.heap.size->(w.drew.alloc (.cells c t)).heap[B]?=w.heap[B]?)/\(w.drew.alloc (.cells c t)).heap.size=w.heap.size+1/\
  (∀j,cl (w.drew.alloc (.cells c t)) w.heap.size j=c[j]?)/\jA (w.drew.alloc (.cells c t)) w.heap.size:=by
 refine⟨λB hB=>?_,by simp,λj=>?_,?_⟩
 ·have:=gA (w:=w.drew) (o:= .cells c t) (B:=B) (by simpa using hB);rw[this];rfl
 ·have:=mO (w:=w.drew) (c:=c) (t:=t) (fr:=(0,0)) (j:=j);simpa using this
 ·exact jA.alloc (w:=w.drew)
theorem Ev.drew_alloc(G:Gh)(w:World)(o:Obj)(H: ∀β B x,G.prot β B x->B<w.heap.size)(J: ∃c t,o= .cells c t:=by exact⟨_,_,rfl⟩):Ev G w (w.drew.alloc o):=
 (Ev.drew G w).trans (dH.refl G) (Ev.alloc G w.drew o H J)
theorem Ig{G:Gh}{w:World}{mem:aO}{b g':Nat}{row':bC}{t M ty tx:TypeId}{s:Nat}{i:TypeInfo}{z:Value}{base:Option Addr}{len cap n:Nat}{olds H:List Value}{y:Value}
    (hM:aJ G w mem) (hb:b<mem.length) (hno: ∀g,g'≤g->G.loc b g=none) (hE:FL P t M s i z)
    (Y:(Builtin.firstCells i.size len (.slice base len cap)).run P w.drew= .ok olds.toArray w.drew) (hol:olds.length=len*s) (hs:Src P s tx y n H w)
    (K:cap<len+n) (J:len+n≤bU) (he:row'.e=s) (U:row'.len=len+n) {Bold:Option Nat} (V: ∀X,lR G w mem b X->Bold≠some X) (hv:zC G w mem b g' row' Bold (olds++H)):
    ∃W w1 cv,(Builtin.append_ #[t,tx] ty #[.slice base len cap,y]).run P w= .ok cv w1/\VR W w1 (.msw b g') cv/\dH G W/\Ev G w w1/\aJ W w1 (mem.set b (some {gen:=g',frz:=false,row:=row'})):=by
  have Z:=growslice_fits (bytes:=i.bytes) K (Ax J hE.bytes);have O:=run_append_grow_src (P:=P) w t tx ty M i z hE.under hE.info hE.zero base len cap olds Y y n H (by rw[hE.size];exact hs) K (by unfold bU at J;omega) Z;generalize hc:(olds++H).toArray++Builtin.zeroCells z.cells (grownCap w (len+n) cap M-(len+n))=c at O;obtain⟨f1,f2,f3,f4⟩:=s7 w c M;have hev:=Ev.drew_alloc G w (.cells c M) hM.away;have N:len+n≤grownCap w (len+n) cap M:=grownCap_ge w _ _ _;have hcl: ∀j u,(olds++H)[j]?=some u->cl (w.drew.alloc (.cells c M)) w.heap.size (0+j)=some u:=by
    intro j u hu;rw[ye1,f3,<-hc,ym3 (by simpa using(yd.1 hu).1)];simpa using hu
  obtain⟨W,hg,hl,hM'⟩:=NU (row':=row') (B':=w.heap.size) (a:=0) (vs:=olds++H) (λ_=>rfl) hM hb hev hno (by rw[he];exact hE.one) (hM.own _ (yb1 _)) (by rw[f2];omega) f4
    (fun β o hp=>absurd (hM.away β _ o hp) (yk4 _)) (λX hX _=>f1 X hX) V (.inl rfl) hv hcl
  refine⟨W,_,_,O,?_,hg,hev,hM'⟩;generalize grownCap w (len+n) cap M=C at hc N⊢
  have hk:VR W (w.drew.alloc (.cells c M)) (.msw b g') (.slice (some ⟨w.heap.size,0,none⟩) row'.len C):=by
   refine .msw b g' _ _ w.heap.size hl rfl (by simp only;rw[U];exact N) (λj hj=>?_);simp only[he,ye1]at hj;rw[f3,<-hc];have hn:=hs.newsLen
   rw[yg2 (by
    simp only[Array.size_append,List.size_toArray,yi,size_zeroCells,hol,hn,hE.zsize];rw[<-yz1,<-yz1]
    exact yn2 hj (yr2 _ (by omega)))]
   rfl
  rw[U]at hk;exact hk
theorem BV{G:Gh}{w:World}{mem:aO}{b:Nat}{x:bV}{row':bC}{B a a1 cap H K:Nat}{vs0 J:List Value}{t et ty tx:TypeId}{s:Nat}{i:TypeInfo}{z:Value}{y:Value}
  (hM:aJ G w mem) (hx:mem[b]?=some (some x)) (hl:G.loc b x.gen=some ⟨some B,x.row.e,x.row.len,a⟩) (hia:row'.isInts=false->a1=0) (hfrz:x.frz=false) (hE:FL P t et s i z)
  (W:vs0.length=H*s) (hcl0: ∀j u,vs0[j]?=some u->cl w B (a1+j)=some u) (hcap:H≤cap) (Z:Fw w B (a1+cap*s))
  (hs:Src P s tx y K J w) (hre:row'.e=s) (U:row'.len=H+K) (hok:zC G w mem b (x.gen+1) row' (some B) (vs0++J)) (hmost:row'.len≤bU):
  ∃G' w1 cv,(Builtin.append_ #[t,tx] ty #[.slice (some ⟨B,a1,none⟩) H cap,y]).run P w= .ok cv w1/\VR G' w1 (.msw b (x.gen+1)) cv/\dH G G'/\Ev G w w1/\
   aJ G' w1 (mem.set b (some {gen:=x.gen+1,frz:=false,row:=row'})):=by
 have hbl:b<mem.length:=(yd.1 hx).1;have hno: ∀g,x.gen+1≤g->G.loc b g=none:=λg hg=>hM.gens b x g hx hg;have hB:fP G b x B:=⟨_,hl,rfl⟩
 have hnl:=hs.newsLen;have O: ∀X,lR G w mem b X->some B≠some X:=λX hO h=>hM.other_ne hx hB hO (yb h).symm;by_cases N:H+K≤cap
 ·obtain⟨_,_,_,h1,h2,h3,h4,h5⟩:=hM.blk hx hB;have M: ∀j,j<J.length->(cl w B (a1+H*s+j)).isSome=true:=by
   intro j Y;refine Z _ ?_;rw[hnl]at Y;rw[yk2];refine Nat.add_lt_add_left ?_ _
   calc H*s+j<H*s+K*s:=by omega
    _=(H+K)*s:=by rw[yz1]
    _≤cap*s:=yr2 _ N
  have hrun:=run_append_room_src (P:=P) w t tx ty et i hE.under hE.info B a1 H cap y K J (by rw[hE.size];exact hs) N
   (λj Y=>by rw[hE.size];exact M j Y) (λj Y=>by rw[hE.size];exact h3.cell (M j Y))
  rw[hE.size]at hrun;have hev:=Ev.setCells (G:=G) (vs:=J) h1 M (h5 hfrz);have hcl: ∀j u,(vs0++J)[j]?=some u->cl (w.setCells B (a1+H*s) J) B (a1+j)=some u:=by
   intro j u V;by_cases Y:j<vs0.length
   ·rw[yq Y]at V;rw[kY (by rw[<-W];exact .inl (Nat.add_lt_add_left Y _))];exact hcl0 j u V
   ·rw[yy (by omega)]at V;obtain⟨k,rfl⟩: ∃k,j=H*s+k:=⟨j-vs0.length,by omega⟩
    rw[W,yy3]at V;have hk:=(yd.1 V).1;rw[<-yk2,mB M hk];rw[ye hk]at V;exact V
  obtain⟨G',hg,hl2,hM'⟩:=NU (row':=row') (B':=B) (a:=a1) (Bold:=some B) (vs:=vs0++J) hia hM hbl hev hno (by rw[hre];exact hE.one) h1 (by rw[nX];exact h2)
   h3.setCells (h5 hfrz) (λX _ hX=>eF (w:=w) (λh=>hX (by rw[h])) J _ w) O (.inr ⟨x,hx,hB,rfl⟩) hok hcl
  refine⟨G',_,_,hrun,?_,hg,hev,hM'⟩;have hk:VR G' (w.setCells B (a1+H*s) J) (.msw b (x.gen+1)) (.slice (some ⟨B,a1,none⟩) row'.len cap):=by
   refine .msw b (x.gen+1) cap _ B hl2 rfl (by simp only;rw[U];exact N) ?_;simp only[hre];exact Z.mono hev
  rw[U]at hk;exact hk
 ·refine Ig (row':=row') (olds:=vs0) (s:=s) hM hbl hno hE ?_ W hs (by omega) (by rw[<-U];exact hmost) hre U O hok;rw[hE.size];exact run_firstCells_some w.drew s H ⟨B,a1,none⟩ H cap vs0 W (λj u V=>by rw[dU];exact hcl0 j u V)
theorem HZ{G:Gh}{w:World}{mem:aO}{b:Nat}{x:bV}{xv yv Y:aP}{B a a1 cap:Nat}{vs0 H:List Value}{t et ty tx:TypeId}{s:Nat}{i:TypeInfo}{z:Value}{y:Value}
  (hM:aJ G w mem) (hx:mem[b]?=some (some x)) (hl:G.loc b x.gen=some ⟨some B,x.row.e,x.row.len,a⟩) (hia:Y.row.isInts=false->a1=0) (Z:x.frz=false) (hE:FL P t et s i z) (hse:s=x.row.e)
  (W:xv.e=s) (M:bW G w xv vs0) (V: ∀j u,vs0[j]?=some u->cl w B (a1+j)=some u) (N:xv.len≤cap) (U:Fw w B (a1+cap*s))
  (hs:Src P s tx y yv.len H w) (J:bW G w yv H) (O:xv.app P et yv=some Y) (K:Y.len≤bU):
  ∃G' w1 cv,(Builtin.append_ #[t,tx] ty #[.slice (some ⟨B,a1,none⟩) xv.len cap,y]).run P w= .ok cv w1/\VR G' w1 (.msw b (x.gen+1)) cv/\dH G G'/\Ev G w w1/\
   aJ G' w1 (mem.set b (some {gen:=x.gen+1,frz:=false,row:=Y.row})):=by
 obtain⟨hz,hze,hze2,hzl⟩:=Et hM.lab O M J;exact BV hM hx hl hia Z hE (by rw[M.1,W]) V N U hs (by rw[mX,hze,W]) (by rw[gW,hzl])
  (.plain (hM.gens b x _ hx (yd3 _)) (mH Y) (by rw[mG];exact hz)) (by rw[gW];exact K)
theorem oK{G:Gh}{w:World}{mem:aO}{b g':Nat}{row':bC}{n:Nat}{H:List Value}{t W ty U:TypeId}{s:Nat}{i:TypeInfo}{z:Value}{y:Value}
  (hM:aJ G w mem) (Y:b<mem.length) (M: ∀g,g'≤g->G.loc b g=none) (hE:FL P t W s i z) (hs:Src P s U y n H w) (hn:n≤bU) (Z:row'.e=s) (J:row'.len=n) (hv:zC G w mem b g' row' none H)
  (hc:n=0->row'.isCells=false):
  ∃N O cv,(Builtin.append_ #[t,U] ty #[.slice none 0 0,y]).run P w= .ok cv O/\VR N O (.msw b g') cv/\dH G N/\Ev G w O/\
   aJ N O (mem.set b (some {gen:=g',frz:=false,row:=row'})):=by
 by_cases h0:n=0
 ·subst h0;have K:H= []:=yu (by rw[hs.newsLen];simp);subst K;obtain⟨N,hg,hl,V⟩:=Ff (row':=row') hM Y M (by rw[Z];exact hE.one) J (hc rfl);exact⟨N,w,_,run_append_nothing (P:=P) w t U ty W i hE.under hE.info none 0 0 (yb1 _) y (by rw[hE.size];exact hs),.mswNil b g' _ hl rfl J,hg,Ev.refl G w,V⟩
 ·exact Ig (row':=row') (olds:= []) (base:=none) (len:=0) (cap:=0) hM Y M hE (run_firstCells_none w.drew i.size 0 0 0) (by simp) hs (by omega) (by omega) Z (by omega) (Bold:=none) (λ_ _ h=>by cases h) (by simpa using hv)
end
end Go.Ab
end
section
namespace Go.Ab
variable [cS]
theorem aJ.protect{G:Gh}{w:World}{mem:aO}(hM:aJ G w mem)(S:Nat->Nat->Prop)(hS: ∀B o,S B o->B<w.heap.size/\G.mine B/\(∀(b:Nat) (x:bV) (e n a:Nat),mem[b]?=some (some x)->x.frz=false->G.loc b x.gen≠some ⟨some B,e,n,a⟩)/\
   ∀(b:Nat) (x:bV) (C i c:Nat),mem[b]?=some (some x)->fP G b x C->¬c6 w C x.row i c B):
  aJ (G.frz S) w mem:=by
 refine⟨λb x h=>?_,hM.unset,hM.gens,hM.apart,hM.inA,hM.inB,hM.own,λB o h=>h.imp (hM.lab B o) id,fun β B o h=>h.elim (hM.away β B o) (λh=>(hS B o h).1),hM.glob.mono (λ_ _ h=> .inl h) λ_ _ _=>rfl⟩;have M:=hM.box b x h;obtain⟨o,Y,K,J,hm⟩:=M.loc;refine⟨M.e,o,Y,K,J,?_⟩;cases o with
 |none=>exact hm
 |some B=>
  obtain⟨Z,V,O,W,U⟩:=hm;have hB:fP G b x B:=⟨_,K,rfl⟩
  refine⟨Z,V,O,W.mono (dH.frz G S λB o h=>(hS B o h).2.1) (Ev.refl G w) (λ_ _=>rfl) (λi c B' N=>⟨.of rfl,fun β o H=>?_⟩),λhf β o H=>?_⟩
  ·rcases H with H|H
   ·exact(hM.inn h hB N).2.2.2 β o H
   ·exact(hS B' o H).2.2.2 b x B i c h hB N
  ·rcases H with H|H
   ·exact U hf β o H
   ·exact(hS B o H).2.2.1 b x _ _ _ h hf K
theorem aJ.new_tree{G:Gh}{w H:World}{mem:aO}(hM:aJ G w mem)(K:Ev G w H)(J: ∀B,B<w.heap.size->H.heap[B]?=w.heap[B]?)(V:H.heap.size=w.heap.size+1):
  aJ (G.frz λB _=>B=w.heap.size) H mem:=by
 have O:=hM.ev K (.inr K.size) J;refine O.protect _ λB o h=>?_;subst h;refine⟨by omega,hM.own _ (yb1 _),λb x e n a N _ Y=>?_,λb x C i c N hC U=>?_⟩
 ·obtain⟨o,a0,M,W,hm⟩:=(hM.box b x N).loc;rw[Y]at M;have:=congrArg Gi.blk (yb M);simp only at this;subst this;exact yk4 _ hm.2.1
 ·have hs: ∀o,cl H C o=cl w C o:=λo=>eE (J C (hM.blkSz N hC)) o;exact yk4 _ (hM.inn N hC (U.same hs)).2.1
theorem Gg{G:Gh}{w:World}{v:aP}{a:AV}{vs:List Value}{B cap:Nat}(V:bW G w v vs)(U:v.imm?=some a)(Y:1≤v.e)(N: ∀j u,vs[j]?=some u->cl w B j=some u)
  (W: ∀β o,G.prot β B o) (J:v.len≤cap):VR G w a (.slice (some ⟨B,0,none⟩) v.len cap):=by
 cases v with
 |ints k xs=>
  obtain rfl:=yb U;obtain⟨_,_,h⟩:=V;exact .imm _ _ _ (.ints k xs B 0 cap J λi x H=>by rw[ye1];exact⟨N _ _ (h i x H),W _ _⟩) rfl
 |pvs β e xs=>
  obtain rfl:=yb U;obtain⟨_,h1,Z,h⟩:=V;have K: ∀(i:Nat) (x:PV) (c:Nat) (y:PV),xs[i]?=some x->x.cells[c]?=some y->vs[i*e+c]?=some (vs.getD (i*e+c) undef)/\PR w (G.prot β) y (vs.getD (i*e+c) undef):=by
   intro i x c y H M;obtain⟨u,hu,O⟩:=h i x c y H M;rw[ym,hu];exact⟨rfl,O⟩
  exact .imm _ _ _ (.sl e xs B 0 cap (λi c=>vs.getD (i*e+c) undef) Y J Z (λi x c y H M=>by rw[ye1];exact⟨N _ _ (K i x c y H M).1,W _ _⟩)
   (fun i x c y H M => h1 _ (yj (K i x c y H M).1)) (fun i x c y H M => (K i x c y H M).2)) rfl
 |avs e cs=>simp[aP.imm?]at U
theorem NT{G:Gh}{w:World}{v:aP}{a:AV}(H:v.imm?=some a)(J:v.len=0):VR G w a (.slice none 0 0):=by
 cases v with
 |ints k xs=>
  obtain rfl:=yb H;obtain rfl:=yu J;exact .imm _ _ _ (.intsNil k _) rfl
 |pvs β e xs=>
  obtain rfl:=yb H;obtain rfl:=yu J;exact .imm _ _ _ (.slNil e _) rfl
 |avs e cs=>simp[aP.imm?]at H
section
variable {P:Program}
theorem KA{t H:TypeId}{s bytes:Nat}{z:AV}(J:elemOf? P t=some H)(N:k8 P H=some s)(K:l8 P H=some bytes)(Z:zero? P H=some z)(h5:bytes≤4096)(W:1≤s)(h7:z.cells.length=s):
  ∃i U,FL P t H s i U:=by
 obtain⟨i,U,M,Y,O⟩:=mW Z;have hu:P.underlying t=some (.slice H):=by
  unfold elemOf? at J;split at J
  ·obtain rfl:=yb J;assumption
  ·simp at J
 have V:=(oG (G:=⟨λ_ _=>none,λ_ _ _=>False,λ_=>False⟩) (w:=default) O).cells;refine⟨i,U,hu,M,?_,Y,?_,?_,W⟩
 ·unfold k8 at N;rw[M]at N;simpa using N
 ·rw[<-h7,V.1];simp
 ·unfold l8 at K;rw[M]at K;simp at K;omega
theorem J7{G:Gh}{w:World}{vars:Bool}{O:TypeId}{v:aP}{row:bC}{vs:List Value}(h:oF P vars O v=some row)(K:bW G w v vs)(N:1≤v.e):
  row.e=v.e/\row.len=v.len/\bW G w row.all vs/\(v.len=0->row.isCells=false):=by
 unfold oF at h;cases vars with
 |true=>
  simp only[yh]at h;rw[aA]at h;obtain⟨M,h⟩:=h;have M:=dA.1 M;rw[bind_some]at h;obtain⟨cs,J,h⟩:=h;rw[aA]at h;obtain⟨U,h⟩:=h;obtain rfl:=yb h;have hL:=GQ J K;have hc:cs.length=v.len*v.e:=by rw[hL.1,K.1]
  refine⟨rfl,?_,bW.ofLRs hL U ?_,λh0=>by omega⟩
  ·show aY v.e cs.length=v.len;rw[hc,jI (n:=0) N]
  ·rw[hc,jI (n:=0) N]
 |false=>
  simp only[yg]at h;split at h
  ·simp at h
  ·rename_i H;obtain rfl:=yb h;refine⟨mX _,gW _,by rw[mG];exact K,λ_=>?_⟩;cases v with
   |avs e cs=>exact absurd rfl (H e cs)
   |ints k xs=>rfl
   |pvs β e xs=>rfl
theorem Mn{vars:Bool}{H:TypeId}{v:aP}{row:bC}(h:oF P vars H v=some row):row.isOwn=false:=by
 unfold oF at h;cases vars with
 |true=>
  simp only[yh]at h;rw[aA]at h;obtain⟨hl,h⟩:=h;rw[bind_some]at h;obtain⟨cs,J,h⟩:=h;rw[aA]at h;obtain⟨h1,h⟩:=h;obtain rfl:=yb h;rfl
 |false=>
  simp only[yg]at h;split at h
  ·simp at h
  ·obtain rfl:=yb h;exact mH _
theorem OE{H:TypeId}{x y z:aP}(h:x.app P H y=some z)(J:x.row.isCells=false):z.row.isCells=false:=by
 unfold aP.app at h;split at h
 ·rw[aA]at h;obtain⟨_,h⟩:=h;obtain rfl:=yb h;rfl
 ·rw[aA]at h;obtain⟨_,h⟩:=h;obtain rfl:=yb h;rfl
 ·simp[aP.row,bC.isCells]at J
 ·simp at h
theorem GE{r:bC}{o n:Nat}{v:aP}(h:r.sub o n=some v)(hr:r.isCells=false):v.row.isCells=false:=by
 cases r with
 |ints k xs=>simp only[bC.sub]at h;rw[aA]at h;obtain⟨_,h⟩:=h;obtain rfl:=yb h;rfl
 |pvs β e xs=>simp only[bC.sub]at h;rw[aA]at h;obtain⟨_,h⟩:=h;obtain rfl:=yb h;rfl
 |cells e cs=>simp[bC.isCells]at hr
 |own e xs hs=>cases h
theorem Od{r:bC}(hr:r.isCells=false):r.all.row.isCells=false:=by cases r<;>first|rfl|cases hr
theorem zQ{G:Gh}{w:World}{mem:aO}{b:Nat}{x:bV}{xv W N:aP}{J:List Value}{t et ty tx:TypeId}{s:Nat}{i:TypeInfo}{z:Value}{y:Value}
  (hM:aJ G w mem) (U:mem[b]?=some (some x)) (hE:FL P t et s i z) (Z:xv.e=s) (hx0:xv.len=0) (O:xv.row.isCells=false) (hvx:bW G w xv [])
  (hs:Src P s tx y W.len J w) (K:bW G w W J) (H:xv.app P et W=some N) (Y:N.len≤bU):
  ∃G' M cv,(Builtin.append_ #[t,tx] ty #[.slice none 0 0,y]).run P w= .ok cv M/\VR G' M (.msw b (x.gen+1)) cv/\dH G G'/\Ev G w M/\
   aJ G' M (mem.set b (some {gen:=x.gen+1,frz:=false,row:=N.row})):=by
 obtain⟨hz,V,_,hzl⟩:=Et hM.lab H hvx K;exact oK hM (yd.1 U).1 (λg hg=>hM.gens b x g U hg) hE hs (by omega) (by rw[mX,V,Z]) (by rw[gW];omega) (.plain (hM.gens b x _ U (yd3 _)) (mH N) (by rw[mG];simpa using hz)) (λ_=>OE H O)
theorem bW.nilOf{G:Gh}{w:World}{v:aP}(H:v.len=0)(hc:v.row.isCells=false):bW G w v []:=by
 cases v with
 |ints k xs=>
  obtain rfl:=yu H;exact⟨rfl,by simp,by simp⟩
 |pvs β e xs=>
  obtain rfl:=yu H;exact⟨by simp[aP.len],by simp,by simp⟩
 |avs e cs=>simp[aP.row,bC.isCells]at hc
theorem Va{r:bC}{o n:Nat}{v:aP}(J:1≤r.e)(h:r.sub o n=some v):v.len=n:=by
 cases r with
 |ints k xs=>
  simp only[bC.sub]at h;rw[aA]at h;obtain⟨H,h⟩:=h;obtain rfl:=yb h;have:=dA.1 H;simp[aP.len];omega
 |pvs β e xs=>
  simp only[bC.sub]at h;rw[aA]at h;obtain⟨H,h⟩:=h;obtain rfl:=yb h;have:=dA.1 H;simp[aP.len];omega
 |cells e cs=>
  simp only[bC.sub]at h;rw[aA]at h;obtain⟨H,h⟩:=h;obtain rfl:=yb h;have H:=dA.1 H;rw[yz1]at H;have:((cs.drop (o*e)).take (n*e)).length=n*e:=by simp;omega
  simp only[aP.len];rw[this];exact jI (n:=0) J n
 |own e xs hs=>cases h
theorem Ud(r:bC):r.all.row.isInts=r.isInts:=by cases r<;>rfl
theorem S8{r:bC}{o n:Nat}{v:aP}(h:r.sub o n=some v):v.row.isInts=r.isInts:=by
 cases r<;>simp only[bC.sub]at h<;>first|(cases h;done)|skip<;>rw[aA]at h<;>obtain⟨_,h⟩:=h<;>obtain rfl:=yb h<;>rfl
theorem M0{t:TypeId}{x y z:aP}(h:x.app P t y=some z):z.row.isInts=x.row.isInts:=by
 unfold aP.app at h;split at h
 ·rw[aA]at h;obtain⟨_,h⟩:=h;obtain rfl:=yb h;rfl
 ·rw[aA]at h;obtain⟨_,h⟩:=h;obtain rfl:=yb h;rfl
 ·rw[bind_some]at h;obtain⟨_,_,h⟩:=h;rw[aA]at h;obtain⟨_,h⟩:=h;obtain rfl:=yb h;rfl
 ·cases h
theorem Kg{G:Gh}{w:World}{mem:aO}{boxed vars:Bool}{t tx ty:TypeId}{rs:Nat}{x y:AV}{out:dY}{cx cy:Value}(hM:aJ G w mem)(hrs:mem[rs]?=some none)
  (h:j8 P boxed vars t tx mem rs x y=some out) (hx:VR G w x cx) (hy:VR G w y cy):
  ∃G' w1 cv,(Builtin.append_ #[t,tx] ty #[cx,cy]).run P w= .ok cv w1/\VR G' w1 out.v cv/\dH G G'/\Ev G w w1/\aJ G' w1 (out.apply mem):=by
 unfold j8 at h;rw[bind_some]at h;obtain⟨et,het,h⟩:=h;rw[bind_some]at h;obtain⟨s,hs,h⟩:=h;rw[bind_some]at h;obtain⟨bytes,hby,h⟩:=h;rw[bind_some]at h;obtain⟨z,hz,h⟩:=h;rw[bind_some]at h;obtain⟨yv,hyv,h⟩:=h;rw[aA]at h;obtain⟨hg,h⟩:=h;simp only[yc]at hg;obtain⟨⟨⟨⟨g1,g2⟩,g3⟩,g4⟩,g5⟩:=hg;have g1:=bZ.1 g1;have g3:=dA.1 g3;have g4:=dA.1 g4;have g5:=bZ.1 g5;obtain⟨i,zv0,hE⟩:=KA het hs hby hz g3 g4 g5;obtain⟨Z,H,J⟩:=BW hM hyv hy (by rw[<-g1];exact hs) g2;rw[<-g1]at H;split at h
 ·obtain rfl:=hx.lit_inv;rw[aA]at h;obtain⟨hml,h⟩:=h;have hml:=dA.1 hml;have hno: ∀g,0≤g->G.loc rs g=none:=λg _=>hM.unset rs g (λx hx=>by rw[hrs]at hx;cases hx);have hrl:=(yd.1 hrs).1;cases boxed with
  |true=>
   simp only[yh]at h;obtain⟨row,hrow,rfl⟩:=yf.1 h;obtain⟨r1,r2,r3,r4⟩:=J7 hrow J (by omega);rw[eB];exact oK hM hrl hno hE H hml (by rw[r1,g1]) r2 (.plain (hno 0 (yb1 _)) (Mn hrow) r3) r4
  |false=>
   simp only[yg]at h;obtain⟨v,hv,rfl⟩:=yf.1 h;rw[HI];by_cases h0:yv.1.len=0
   ·rw[h0]at H;have hnn:Z= []:=yu (by rw[H.newsLen];simp);subst hnn;exact⟨G,w,_,run_append_nothing (P:=P) w t tx ty et i hE.under hE.info none 0 0 (yb1 _) cy (by rw[hE.size];exact H),NT hv h0,dH.refl G,Ev.refl G w,hM⟩
   ·have hrun:=run_append_grow_src (P:=P) w t tx ty et i zv0 hE.under hE.info hE.zero none 0 0 [] (run_firstCells_none w.drew i.size 0 0 0) cy yv.1.len Z (by rw[hE.size];exact H) (by omega)
     (by unfold bU at hml;omega) (growslice_fits (bytes:=i.bytes) (by omega) (Ax (by omega) hE.bytes))
    generalize hc:([]++Z).toArray++Builtin.zeroCells zv0.cells (grownCap w (0+yv.1.len) 0 et-(0+yv.1.len))=c at hrun;obtain⟨f1,f2,f3,f4⟩:=s7 w c et;have hev:=Ev.drew_alloc G w (.cells c et) hM.away;have hM':=hM.new_tree hev f1 f2;have hg:=dH.frz G (λB _=>B=w.heap.size) (λB _ h=>by subst h;exact hM.own _ (yb1 _));refine⟨_,_,_,hrun,?_,hg,hev,hM'⟩;have hcap:0+yv.1.len≤grownCap w (0+yv.1.len) 0 et:=grownCap_ge w _ _ _;generalize grownCap w (0+yv.1.len) 0 et=C at hc hcap⊢
    rw[ye1]at hcap⊢
    refine Gg (vs:=Z) (J.mono hg hev) hv (by omega) (λj u W=>?_) (fun β o=> .inr rfl) hcap;rw[f3,<-hc,ym3 (by simpa using(yd.1 W).1)];simpa using W
 ·rename_i b g;rw[bind_some]at h;obtain⟨U,hbx,h⟩:=h;rw[bind_some]at h;obtain⟨zv,O,h⟩:=h;rw[aA]at h;obtain⟨hc,h⟩:=h;simp only[yc,yx]at hc;obtain⟨⟨c1,Y⟩,c3⟩:=hc;have Y:=bZ.1 Y;have c3:=dA.1 c3;obtain rfl:=yb h;rw[eB];obtain⟨hm,rfl⟩:=box?_some hbx;have he:=(hM.box b U hm).e;cases hx with
  |msw _ _ cap L B hl hb hn hf=>
   obtain⟨o,a0,M,V,N⟩:=(hM.box b U hm).loc;have K:=hl;rw[M]at K;obtain rfl:=yb K;simp only at hb;subst hb;obtain⟨h1,h2,h3,h4,h5⟩:=N;obtain⟨vs,hvs,hcl'⟩:=h4.toList he (box?_own hbx) V;have hcl: ∀j u,vs[j]?=some u->cl w B (a0+j)=some u:=λj u W=>by rw[hcl' j (yd.1 W).1];exact W
   have:=HZ (P:=P) (ty:=ty) (xv:=U.row.all) (cap:=cap) (a1:=a0) hM hm M (λh=>V (by rw[<-Ud,<-M0 O];exact h)) c1 hE Y (by rw[sI,Y]) hvs hcl (by rw[eL];exact hn) (by rw[Y];exact hf) H J O c3;rw[eL]at this;exact this
  |mswNil _ _ L hl hb hn=>
   obtain⟨o,a0,M,V,N⟩:=(hM.box b U hm).loc;have K:=hl;rw[M]at K;obtain rfl:=yb K;simp only at hb;subst hb;have hc0:=Od N.2;have hl0:U.row.all.len=0:=by rw[eL];exact N.1
   exact zQ hM hm hE (by rw[sI,Y]) hl0 hc0 (bW.nilOf hl0 hc0) H J O c3
 ·rename_i b g o' n;rw[bind_some]at h;obtain⟨U,hbx,h⟩:=h;rw[bind_some]at h;obtain⟨xv,hxv,h⟩:=h;rw[bind_some]at h;obtain⟨zv,O,h⟩:=h;rw[aA]at h;obtain⟨hc,h⟩:=h;simp only[yc,yx]at hc;obtain⟨⟨⟨c1,Y⟩,c3⟩,c4⟩:=hc;have c4:o'=0\/(U.row.isInts=true/\1≤zv.len):=by
   rw[yh2,yc]at c4;exact c4.imp (λh=>bZ.1 h) (λh=>⟨h.1,dA.1 h.2⟩)
  have Y:=bZ.1 Y;have c3:=dA.1 c3;obtain rfl:=yb h;rw[eB];obtain⟨hm,rfl⟩:=box?_some hbx;have he:=(hM.box b U hm).e;have hxl:=Va he hxv;have hxe:=TU hxv;cases hx with
  |ms _ _ _ _ cap L B hl hb hn hon hf=>
   obtain⟨o,a0,M,V,N⟩:=(hM.box b U hm).loc;have K:=hl;rw[M]at K;obtain rfl:=yb K;simp only at hb;subst hb;obtain⟨h1,h2,h3,h4,h5⟩:=N;obtain⟨vs,hvs,hcl'⟩:=h4.toList he (box?_own hbx) V;have hcl: ∀j u,vs[j]?=some u->cl w B (a0+j)=some u:=λj u W=>by rw[hcl' j (yd.1 W).1];exact W
   have hsub:=A0 he hxv hvs;have hw0:=hsub.1;have hia:zv.row.isInts=false->a0+o'*U.row.e=0:=λh=>by
    rw[M0 O,S8 hxv]at h;rcases c4 with rfl|⟨c4,_⟩
    ·rw[V h,ys3]
    ·rw[h]at c4;cases c4
   have:=HZ (P:=P) (ty:=ty) (cap:=cap) (a1:=a0+o'*U.row.e) hM hm M hia c1 hE Y (by rw[hxe,Y]) hw0
    (fun j u W => by
     have hj:=(yd.1 W).1;rw[yj2]at hj;rw[yy1,if_pos (by omega),yg1]at W
     rw[yk2];exact hcl _ u W) (by rw[hxl];exact hn) (by rw[Y,yk2,<-yz1];exact hf) H J O c3
   rw[hxl]at this;exact this
  |msNil _ _ L hl hb=>
   obtain⟨o,a0,M,V,N⟩:=(hM.box b U hm).loc;have K:=hl;rw[M]at K;obtain rfl:=yb K;simp only at hb;subst hb;have hc0:=GE hxv N.2;exact zQ hM hm hE (by rw[hxe,Y]) hxl hc0 (bW.nilOf hxl hc0) H J O c3
  |msZ _ _ _ B oo L hl hb ho hon=>
   have hB:fP G b U B:=⟨L,hl,hb⟩
   obtain⟨hi,hz1⟩:=c4.resolve_left (by omega);have hvx:bW G w xv []:=bW.nilOf hxl (GE hxv (by revert hi;cases U.row<;>intro h<;>first|rfl|cases h));obtain⟨hz,hze,_,hzl⟩:=Et hM.lab O hvx J;refine Ig (row':=zv.row) (olds:= []) (s:=s) (base:=some ⟨B,oo,none⟩) (len:=0) (cap:=0) hM (yd.1 hm).1 (λg hg=>hM.gens b U g hm hg) hE
    (run_firstCells_some w.drew i.size 0 ⟨B,oo,none⟩ 0 0 [] (by simp) (λj u W=>by simp at W)) (by simp) H (by omega) (by omega) (by rw[mX,hze,hxe,Y]) (by rw[gW];omega) (Bold:=none) (λ_ _ h=>by cases h) ?_
   exact .plain (hM.gens b U _ hm (yd3 _)) (mH zv) (by rw[mG];simpa using hz)
 ·simp at h
end
end Go.Ab
end
section
namespace Go.Ab
variable [cS]
def flat(us:List Value):List Value:=us.flatMap λu=>u.cells.toList
theorem kA(u:Value)(us:List Value):flat (u::us)=u.cells.toList++flat us:=by simp[flat]
theorem jP{e:Nat}: ∀{us:List Value},(∀u∈us,u.cells.size=e)->(flat us).length=us.length*e
 | [],_=>by simp[flat]
 |u::us,h=>by
  rw[kA,yi,jP (λx H=>h x (yk _ H)),yi2,h u (yn ..),yw,yz1];omega
theorem sO{e:Nat}: ∀{us:List Value} {i c:Nat} {u:Value},(∀u∈us,u.cells.size=e)->us[i]?=some u->c<e->(flat us)[i*e+c]?=u.cells.toList[c]?
 | [],i,c,u,h,H,hc=>by simp at H
 |v::us,0,c,u,h,H,hc=>by
  simp at H;subst H;rw[kA,ys3,ye1,yq (by rw[yi2,h v (yn ..)];exact hc)]
 |v::us,i+1,c,u,h,H,hc=>by
  have J:=h v (yn ..);rw[kA,yy (by rw[yi2,J,yz1];omega),yi2,J,show(i+1)*e+c-e=i*e+c by rw[yz1];omega];exact sO (λx K=>h x (yk _ K)) (by simpa using H) hc
theorem N7{us:List Value}{x:Value}(h:x∈flat us): ∃u∈us,x∈u.cells.toList:=List.mem_flatMap.1 h
theorem Aq: ∀{xs a b:List Value} {k:Nat},bN (a++b) (a.length+k) xs=a++bN b k xs
 | [],a,b,k=>rfl
 |x::xs,a,b,k=>by
  simp only[bN];rw[List.set_append_right _ _ (by omega),yy3,yk2];exact Aq
theorem z5: ∀{xs a b:List Value} {p:List Value},xs.length=a.length->bN (p++(a++b)) p.length xs=p++(xs++b)
 | [],a,b,p,h=>by
  have:=yu h.symm;subst this;simp[bN]
 |x::xs,[],b,p,h=>by simp at h
 |x::xs,y::a,b,p,h=>by
  simp only[bN];rw[List.set_append_right _ _ (by omega),Nat.sub_self];simp only[yo3,List.set_cons_zero];have:=z5 (xs:=xs) (a:=a) (b:=b) (p:=p++ [x]) (by simpa using h);simpa using this
theorem NZ{e:Nat}: ∀{us:List Value} {i:Nat} {v:Value},(∀u∈us,u.cells.size=e)->v.cells.size=e->i<us.length->bN (flat us) (i*e) v.cells.toList=flat (us.set i v)
 | [],i,v,h,H,J=>by simp at J
 |u::us,0,v,h,H,J=>by
  have:=z5 (xs:=v.cells.toList) (a:=u.cells.toList) (b:=flat us) (p:= []) (by simp[H,h u (yn ..)]);rw[List.set_cons_zero,kA,kA,ys3];exact this
 |u::us,i+1,v,h,H,J=>by
  have K:=h u (yn ..)
  rw[List.set_cons_succ,kA,kA,show(i+1)*e=u.cells.toList.length+i*e by rw[yi2,K,yz1];omega,Aq,
   NZ (λx M=>h x (yk _ M)) H (by simpa using J)]
def gY(us:List Value):List (Nat×Value)->List Value
 | []=>us
 |(i,v)::r=>gY (us.set i v) r
theorem AC: ∀{qs:List (Nat×Value)} {us:List Value},(gY us qs).length=us.length
 | [],us=>rfl
 |(i,v)::r,us=>by rw[gY,AC];simp
theorem r8{e:Nat}: ∀{qs:List (Nat×Value)} {us:List Value},(∀u∈us,u.cells.size=e)->(∀q∈qs,q.2.cells.size=e)->∀u∈gY us qs,u.cells.size=e
 | [],us,h,_=>h
 |(i,v)::r,us,h,K=>by
  refine r8 (qs:=r) (us:=us.set i v) (λu M=>?_) (λq H=>K q (yk _ H));rcases ym2 M with J|J
  ·exact h u J
  ·rw[J];exact K (i,v) (yn ..)
theorem Fg{s:Nat}: ∀{qs:List (Nat×Value)} {us:List Value} {c:Array Value},c.toList=flat us->(∀u∈us,u.cells.size=s)->(∀q∈qs,q.2.cells.size=s/\q.1<us.length)->
  ∃V,Instr.fill (λi=>some (i*s,s)) c qs=some V/\V.toList=flat (gY us qs)
 | [],us,c,hc,_,_=>⟨c,rfl,hc⟩
 |(i,v)::r,us,c,hc,O,U=>by
  obtain⟨J,K⟩:=U (i,v) (yn ..);simp only at J K;have H:(v.cells.zipIdx.foldl (λcs (c,j)=>cs.setIfInBounds (i*s+j) c) c).toList=bN c.toList (i*s) v.cells.toList:=by
   have:=Fi v.cells.toList (i*s) 0 c;rw[ya2]at this;rw[<-this,<-Array.foldl_toList];simp
  have M:c.size=us.length*s:=by rw[<-jP O,<-hc];simp
  have W:i*s+v.cells.size≤c.size:=by
   rw[M,J]
   calc i*s+s=(i+1)*s:=by rw[yz1];omega
    _≤us.length*s:=yr2 _ K
  simp only[Instr.fill];rw[if_neg (by simp only[yh2,decide_eq_true_eq];omega)];refine Fg (us:=us.set i v) (by rw[H,hc,NZ O J K]) (λu h=>?_) (λq h=>⟨(U q (yk _ h)).1,by simpa using(U q (yk _ h)).2⟩);rcases ym2 h with N|N
  ·exact O u N
  ·rw[N];exact J
theorem lJ(z:Array Value)(K:1≤z.size): ∀n,((Array.range (n*z.size)).map (z[· %z.size]!)).toList=(List.replicate n z.toList).flatten
 |0=>by simp
 |n+1=>by
  have J:=lJ z K n;simp only[Array.toList_map,Array.toList_range]at J⊢
  rw[yz1,Nat.one_mul,List.range_add,yv3,J,List.replicate_succ',List.flatten_append];congr 1;simp only[List.flatten_cons,List.flatten_nil,ys1,List.map_map];apply List.ext_getElem
  ·simp
  ·intro j H h2;simp at H;have:(n*z.size+j)%z.size=j:=by
    rw[Nat.add_comm,Nat.add_mul_mod_self_right];exact Nat.mod_eq_of_lt H
   simp[this,H]
theorem gN(n:Nat)(z:Value):flat (List.replicate n z)=(List.replicate n z.cells.toList).flatten:=by
 induction n with
 |zero=>rfl
 |succ n H=>rw[yz3,kA,H,yz3,List.flatten_cons]
theorem V4{G:Gh}(H: ∀B o,G.prot false B o->G.prot true B o){β β':Bool}(h:β'=false->β=false){w:World}{p:PV}{v:Value}(K:PR w (G.prot β) p v):PR w (G.prot β') p v:=by
 refine K.mono (λB o J=>?_) (λ_ _ _=>rfl);cases β' with
 |false=>rw[h rfl]at J;exact J
 |true=>cases β with
  |true=>exact J
  |false=>exact H _ _ J
section
variable {P:Program}
theorem Ju{G:Gh}{w:World}{mem:aO}{boxed:Bool}{rs:Nat}{v:aP}{vs:List Value}{out:dY}{t:TypeId}(hM:aJ G w mem)(W:mem[rs]?=some none)(h:w9 boxed rs v=some out)
  (U:bW G w v vs) (Z:1≤v.e):
  ∃N,dH G N/\Ev G w (w.alloc (.cells vs.toArray t))/\aJ N (w.alloc (.cells vs.toArray t)) (aR mem out.wr)/\VR N (w.alloc (.cells vs.toArray t)) out.v (.slice (some ⟨w.heap.size,0,none⟩) v.len v.len)/\out.push= []:=by
 have K: ∀j u,vs[j]?=some u->cl (w.alloc (.cells vs.toArray t)) w.heap.size j=some u:=λj u hu=>by
  rw[mO];simpa using hu
 unfold w9 at h;cases boxed with
 |true=>
  simp only[yh]at h;obtain rfl:=yb h;obtain⟨N,rfl,hg,H,J,hl⟩:=Jy (row:=v.row) (vs:=vs) (rest:= #[]) (t:=t) hM W (by rw[mX];exact Z) (mH v) (by rw[mG];exact U);rw[Array.append_empty]at H J;refine⟨_,hg,H,J,?_,rfl⟩;have Y:VR (G.put rs 0 ⟨some w.heap.size,v.row.e,v.row.len,0⟩) (w.alloc (.cells vs.toArray t)) (.msw rs 0) (.slice (some ⟨w.heap.size,0,none⟩) v.row.len v.len):=by
   refine .msw rs 0 v.len _ w.heap.size hl rfl (by simp only[gW];exact yb1 _) (λj O=>?_);simp only[mX]at O;have V:j<vs.length:=by rw[U.1];exact(by rw[ye1]at O;exact O)
   rw[K j _ (ye V)];rfl
  rw[gW]at Y⊢;exact Y
 |false=>
  simp only[yg]at h;obtain⟨a,ha,rfl⟩:=yf.1 h;have H:=Ev.alloc G w (.cells vs.toArray t) hM.away;have J:=hM.new_tree H (λB hB=>gA hB) (by simp);have M:=dH.frz G (λB _=>B=w.heap.size) (λB _ h=>by subst h;exact hM.own _ (yb1 _));refine⟨_,M,H,J,?_,rfl⟩;exact Gg (vs:=vs) (U.mono M H) ha Z K (fun β o=> .inr rfl) (yb1 _)
theorem v8{G:Gh}{w:World}: ∀{vs:List AV} {us:List Value},kI G w vs us->kI G w (jD vs) (flat us)
 | [],us,h=>by
  have:=yu h.1.symm;subst this;exact⟨rfl,λj y H=>by simp[jD]at H⟩
 |v::vs,[],h=>by simp[kI]at h
 |v::vs,u::us,h=>by
  rw[jD,kA];refine kI.append (h.2 0 v rfl).cells (v8 ⟨by simpa using h.1,λj y H=>by simpa using h.2 (j+1) y (by simpa using H)⟩)
theorem kI.get{G:Gh}{w:World}{as:List AV}{vs:List Value}(h:kI G w as vs){j:Nat}{a:AV}(J:as[j]?=some a): ∃u,vs[j]?=some u/\VR G w a u:=by
 have H:j<vs.length:=by rw[<-h.1];exact(yd.1 J).1
 have:=h.2 j a J;rw[ym,ye H]at this;exact⟨_,ye H,this⟩
theorem Cr{k:IntKind}: ∀{vs:List AV} {xs:List Int},gP k vs=some xs->xs.length=vs.length/\∀(j:Nat) (x:Int),xs[j]?=some x->vs[j]?=some (.lit (.int k x))
 | [],xs,h=>by simp[gP]at h;subst h;exact⟨rfl,λj x H=>by simp at H⟩
 |v::vs,xs,h=>by
  unfold gP at h;split at h
  ·simp_all
  ·rename_i N x r M;obtain⟨rfl,rfl⟩:=yd1 M;cases J:jS k N with
   |false=>rw[J]at h;simp at h
   |true=>
    rw[J]at h;simp only[yh]at h;obtain⟨ys,K,rfl⟩:=yf.1 h;rw[l6]at J;subst J;obtain⟨O,U⟩:=Cr K;refine⟨by simp[O],λj x H=>?_⟩;cases j with
    |zero=>simp at H;subst H;rfl
    |succ j=>simpa using U j x (by simpa using H)
  ·simp at h
theorem Me{G:Gh}{w:World}{mem:aO}{vars:Bool}{t:TypeId}{vs:List AV}{us:List Value}{r:aP×List Nat}{s:Nat}(hM:aJ G w mem)(h:p6 P vars mem t vs=some r)(hL:kI G w vs us)
  (Z: ∀u∈us,u.cells.size=s) (hs:1≤s) (M:r.1.e=s):bW (G.frz (bA G w mem r.2)) w r.1 (flat us)/\r.1.len=vs.length:=by
 have Y:=jP Z;unfold p6 at h;split at h
 ·rename_i k hk;obtain⟨xs,hxs,rfl⟩:=yf.1 h;obtain⟨V,hh⟩:=Cr hxs;simp only[aP.e]at M;subst M;have O: ∀(i:Nat) (x:Int),xs[i]?=some x->(flat us)[i]?=some (.int k x):=by
   intro i x J;obtain⟨u,K,H⟩:=hL.get (hh i x J);obtain rfl:=H.lit_inv;have:=sO Z K (c:=0) (by omega);rw[yt3,ya2]at this;exact this
  refine⟨⟨by simp only[aP.len,aP.e];rw[Y,V,hL.1],λu K=>?_,O⟩,by simpa[aP.len]using V⟩;obtain⟨j,hj,rfl⟩:=yb2 K;have hj2:j<xs.length:=by rw[V,hL.1];omega
  have:=O j _ (ye hj2);rw[ye hj]at this;rw[yb this];rfl
 ·rw[bind_some]at h;obtain⟨e,he,h⟩:=h;cases vars with
  |true=>
   simp only[yh]at h;rw[aA]at h;obtain⟨hg,h⟩:=h;simp only[yc]at hg;obtain rfl:=yb h;simp only[aP.e]at M;subst M;have hcs:=v8 hL;have V:(jD vs).length=vs.length*e:=by rw[hcs.1,Y,hL.1]
   have hcb:aY e (jD vs).length=vs.length:=by rw[V,jI (n:=0) hs]
   exact⟨(bW.ofLRs hcs hg.2 (by rw[hcb];exact V)).mono (dH.frz G _ hM.inBoxes) (Ev.refl G w),hcb⟩
  |false=>
   simp only[yg]at h;obtain⟨q,hq,rfl⟩:=yf.1 h;simp only[aP.e]at M;subst M;obtain⟨V,hh⟩:=v6 hq;have hlab: ∀B o,(G.frz (bA G w mem q.2.2)).prot false B o->(G.frz (bA G w mem q.2.2)).prot true B o:=λB o h=>h.imp (hM.lab B o) id;have O: ∀(i:Nat) (x:PV),q.2.1[i]?=some x->∃v u q1,vs[i]?=some v/\us[i]?=some u/\VR G w v u/\yQ P mem t v=some q1/\q1.2.1=x/\(∀b∈q1.2.2,b∈q.2.2)/\(q.1=false->q1.1=false):=by
    intro i x J;have hi:i<vs.length:=by rw[<-V];exact(yd.1 J).1
    obtain⟨q1,h1,h2,h3,h4⟩:=hh i _ (ye hi);obtain⟨u,K,H⟩:=hL.get (ye hi);rw[J]at h2;exact⟨_,u,q1,ye hi,K,H,h1,(yb h2).symm,h3,h4⟩
   have hsz: ∀(i:Nat) (x:PV),q.2.1[i]?=some x->x.cells.length=e:=by
    intro i x J;obtain⟨v,u,q1,hv,K,H,h1,rfl,h3,h4⟩:=O i x J;obtain⟨ql,_⟩:=vP hM h1 H;rw[ql,H.cells.1,yi2];exact Z u (yj K)
   have U: ∀(i:Nat) (x:PV) (c:Nat) (y:PV),q.2.1[i]?=some x->x.cells[c]?=some y->∃u,(flat us)[i*e+c]?=some u/\PR w ((G.frz (bA G w mem q.2.2)).prot q.1) y u/\u.oneCell'=true:=by
    intro i x c y J hy;have hce:c<e:=by rw[<-hsz i x J];exact(yd.1 hy).1
    obtain⟨v,u,q1,hv,K,H,h1,rfl,h3,h4⟩:=O i x J;obtain⟨ql,qq⟩:=vP hM h1 H;obtain⟨u',W,hpr,N⟩:=qq c y hy;refine⟨u',by rw[sO Z K hce];exact W,V4 hlab h4 (hpr.mono (λB o hb=>hb.imp id (λhi=>hi.mono h3)) (λ_ _ _=>rfl)),N⟩
   refine⟨⟨by simp only[aP.len,aP.e];rw[Y,V,hL.1],λu K=>?_,λx J=>?_,λi x c y J hy=>?_⟩,by simpa[aP.len]using V⟩
   ·obtain⟨j,hj,rfl⟩:=yb2 K;have hj':=hj;rw[Y]at hj';have hi:j/e<us.length:=Nat.div_lt_of_lt_mul (by rw[yb3];exact hj');have hc:j%e<e:=Nat.mod_lt _ hs;have hi2:j/e<q.2.1.length:=by rw[V,hL.1];exact hi
    have J:=ye hi2;have hy:j%e<(q.2.1[j/e]).cells.length:=by rw[hsz _ _ J];exact hc
    obtain⟨u',W,_,N⟩:=U _ _ _ _ J (ye hy);have hjj:j/e*e+j%e=j:=by rw[yb3];exact Nat.div_add_mod j e
    rw[hjj,ye hj]at W;rw[yb W];exact N
   ·obtain⟨j,hj,rfl⟩:=yb2 J;exact hsz j _ (ye hj)
   ·obtain⟨u,K,hpr,_⟩:=U i x c y J hy;exact⟨u,K,hpr⟩
theorem B0{G:Gh}{w:World}: ∀{ps:List (Nat×AV)} {qs:List (Nat×Value)} {vs:List AV} {us:List Value},kI G w vs us->Wq G w ps qs->kI G w (qN vs ps) (gY us qs)
 | [],qs,vs,us,h,H=>by
  have:=yu H.1.symm;subst this;exact h
 |(i,v)::r,[],vs,us,h,H=>by simp[Wq]at H
 |(i,v)::r,(i',u)::qs,vs,us,h,H=>by
  obtain⟨u',K,M⟩:=H.2 0 (i,v) rfl;simp only[yj3,Option.some.injEq,Prod.mk.injEq]at K;obtain⟨rfl,rfl⟩:=K;exact B0 (ps:=r) (qs:=qs) (h.set M) ⟨by simpa using H.1,λj p J=>by simpa using H.2 (j+1) p (by simpa using J)⟩
theorem rW: ∀{ps:List (Nat×AV)} {vs:List AV},(qN vs ps).length=vs.length
 | [],vs=>rfl
 |(i,v)::r,vs=>by rw[qN,rW];simp
theorem zW{e:Nat}: ∀{vs:List AV},pK e vs=true->∀v∈vs,v.cells.length=e
 | [],_=>by simp
 |v::vs,h=>by
  simp only[pK,yc]at h;intro x H;rcases yk1.1 H with rfl|H
  ·exact bZ.1 h.1
  ·exact zW h.2 x H
theorem y7{n:Nat}: ∀{ps:List (Nat×AV)},rJ n ps=true->∀p∈ps,p.1<n
 | [],_=>by simp
 |(i,v)::r,h=>by
  simp only[rJ,yc]at h;intro x H;rcases yk1.1 H with rfl|H
  ·exact dA.1 h.1
  ·exact y7 h.2 x H
end
end Go.Ab
end
section
namespace Go.Ab
variable [cS]
theorem w6: ∀(l:List Int) (r:ByteArray),l.foldl (λr n=>r.push (UInt8.ofNat n.toNat)) r=⟨r.data++(l.map λn=>UInt8.ofNat n.toNat).toArray⟩
 | [],r=>by simp
 |b::l,r=>by
  simp only[List.foldl_cons];rw[w6 l];simp[ByteArray.push]
theorem Li(xs:List Int):xs.foldl (λr n=>r.push (UInt8.ofNat n.toNat)) ByteArray.empty=s9 xs:=by
 rw[w6];have H:ByteArray.empty.data= #[]:=rfl;simp[s9,H]
section
variable {P:Program}
theorem Hf{G:Gh}{w:World}{mem:aO}{boxed vars:Bool}{t U:TypeId}{rs len s:Nat}{z:AV}{ps:List (Nat×AV)}{qs:Array (Nat×Value)}{wv:aP×List Nat}{o:dY}(hM:aJ G w mem)(hrs:mem[rs]?=some none)
  (K:elemOf? P t=some U) (hz:zero? P U=some z) (hs:k8 P U=some s) (hg:(rJ len ps&&Nat.ble len 4096&&Nat.ble 1 s&&Nat.ble s 4096&&pK s (z::ps.map (·.2)))=true)
  (hv:p6 P vars mem U (qN (List.replicate len z) ps)=some wv) (V:Nat.beq wv.1.e s=true) (ho:w9 (boxed||Nat.beq len 0) rs wv.1=some o) (hp:Wq G w ps qs.toList):
  ∃G' w' cv,(Instr.buildSlice t len qs).run P w= .ok cv w'/\VR G' w' o.v cv/\dH G G'/\Ev G w w'/\aJ G' w' (({v:=o.v,rd:=wv.2,wr:=cM mem wv.2++o.wr}:dY).apply mem):=by
 simp only[yc]at hg;obtain⟨⟨⟨⟨g1,g2⟩,g3⟩,g4⟩,g5⟩:=hg;have g2:=dA.1 g2;have g3:=dA.1 g3;have g4:=dA.1 g4;have V:=bZ.1 V;have hu:P.underlying t=some (.slice U):=by
  unfold elemOf? at K;split at K
  ·obtain rfl:=yb K;assumption
  ·simp at K
 obtain⟨i,H,hi,hzv,hov⟩:=mW hz;have J:i.size=s:=by unfold k8 at hs;rw[hi]at hs;simpa using hs
 have hzr:VR G w z H:=oG hov;have Y:=zW g5;have O:H.cells.size=s:=by rw[<-Y z (yn ..)];simpa using hzr.cells.1.symm
 have hL0:kI G w (List.replicate len z) (List.replicate len H):=by
  refine⟨by simp,λj y hy=>?_⟩;obtain⟨hj,rfl⟩:j<len/\z=y:=by
   have W:=(yd.1 hy)
   obtain⟨W,h2⟩:=W;simp at W h2;exact⟨W,h2⟩
  rw[ym,yt1,if_pos hj];exact hzr
 have hL:=B0 hL0 hp;have hq: ∀q∈qs.toList,q.2.cells.size=s/\q.1<(List.replicate len H).length:=by
  intro q hq;obtain⟨j,hj,rfl⟩:=yb2 hq;have M:j<ps.length:=by rw[hp.1];exact hj
  obtain⟨v,hv,hvr⟩:=hp.2 j _ (ye M);rw[ye hj]at hv;have hqe:=yb hv;rw[hqe];refine⟨?_,by simp only[yi3];exact y7 g1 _ (yf2 M)⟩;rw[<-Y (ps[j].2) (yk _ (yl3.2 ⟨_,yf2 M,rfl⟩))];simpa using hvr.cells.1.symm
 have hz1: ∀u∈List.replicate len H,u.cells.size=s:=λu hu=>by rw[(ya3.1 hu).2];exact O
 have hus:=r8 hz1 (λq h=>(hq q h).1);obtain⟨N,hvl⟩:=Me hM hv hL hus g3 V;have hM1:=hM.freeze wv.2;have Z:=dH.frz G (bA G w mem wv.2) hM.inBoxes;have hrs1:(aR mem (cM mem wv.2))[rs]?=some none:=by
  rw[(eU mem wv.2 mem rs rfl).2.1 (.inr (λy hy=>by rw[hrs]at hy;cases hy))];exact hrs
 obtain⟨G',W,h2,h3,h4,h5⟩:=Ju (t:=U) hM1 hrs1 ho N (by omega);have hlen:wv.1.len=len:=by rw[hvl,rW];simp
 rw[hlen]at h4;refine⟨G',_,_,?_,h4,Z.trans W,?_,?_⟩
 ·by_cases h0:len=0
  ·subst h0;have hq0:qs.toList= []:=by
    cases hh:qs.toList with
    |nil=>rfl
    |cons q r=>have:=(hq q (by rw[hh];exact yn ..)).2;simp at this
   rw[hq0];simp[Instr.buildSlice,run_underlying hu,sizeOf,typeInfo,hi,hq0,Instr.fill,newRow,gY,flat,Array.range_zero']
  ·have hlt:len*s≤16777216:=yv2 (Nat.mul_le_mul g2 g4) (by decide);have hpos:0<len*s:=Nat.mul_pos (by omega) (by omega)
   have hc0:((Array.range (len*i.size)).map (H.cells[· %H.cells.size]!)).toList=flat (List.replicate len H):=by
    rw[J,gN];have:=lJ H.cells (by omega) len;rw[O]at this;rw[O];exact this
   obtain⟨c',hf,hc'⟩:=Fg hc0 hz1 hq;have hcc:c'=(flat (gY (List.replicate len H) qs.toList)).toArray:=by rw[<-hc']
   rw[<-hcc];exact run_buildSlice w t U len qs c' i H hu hi hzv (by rw[J];omega) (by rw[J];omega) (by rw[J]at hf⊢;exact hf)
 ·exact(Ev.refl G w).trans Z h2
 ·simp only[dY.apply,ys1];rw[sD];exact h3
theorem Ao{G:Gh}{w:World}{mem:aO}{boxed:Bool}{t N:TypeId}{rs n s:Nat}{J:Value}{v:aP}{i:TypeInfo}{out:dY}{kl kc:IntKind}(hM:aJ G w mem)(Y:mem[rs]?=some none)
  (hu:P.underlying t=some (.slice N)) (hi:P.info? N=some i) (hz:i.zero=some J) (U:i.size=s) (hs1:1≤s) (V:i.bytes≤4096) (hn:n≤bU) (O:J.cells.size=s)
  (hv:bW G w v (flat (List.replicate n J))) (W:v.len=n) (hve:v.e=s) (ho:w9 boxed rs v=some out):
  ∃K M cv,(Instr.makeSlice t (.int kl (n:Int)) (.int kc (n:Int))).run P w= .ok cv M/\VR K M out.v cv/\dH G K/\Ev G w M/\aJ K M (out.apply mem):=by
 obtain⟨K,h1,h2,h3,Z,h5⟩:=Ju (t:=N) hM Y ho hv (by omega);have hfit:=Ax hn V
 have H:=run_make (P:=P) w t N i J hu hi hz kl kc n n (by omega) (Int.le_refl _) (by
   have h:((n*i.bytes:Nat):Int)≤281474976710656:=by omega
   rw[Int.natCast_mul,Int.mul_comm]at h;exact h) (by unfold bU at hn;omega)
 simp only[yz]at H;have hc:madeCells J.cells (n*i.size)=(flat (List.replicate n J)).toArray:=by
  have:=lJ J.cells (by omega) n;rw[<-yx2 (xs:=madeCells J.cells (n*i.size)),gN,<-this,U];simp only[madeCells,O]
 rw[hc]at H;rw[W]at Z;refine⟨K,_,_,H,Z,h1,h2,?_⟩;simp only[dY.apply,h5,ys1];exact h3
theorem Ms{G:Gh}{w:World}{mem:aO}{e M dst:TypeId}{x:AV}{xs:List Int}{rd:List Nat}{cv:Value}(hM:aJ G w mem)(O:P.underlying M=some (.slice e))(he:P.underlying e=some (.int .u8))(hd:P.underlying dst=some .string)
  (hv:view P e mem x=some (.ints .u8 xs,rd)) (ht:k8 P e=some 1) (N:Bt P M x=true) (Z:VR G w x cv):(convert M dst cv).run P w= .ok (.string (s9 xs)) w:=by
 obtain⟨K,hS,hV⟩:=BW hM hv Z ht N;have J:K=xs.map (Value.int .u8):=by
  obtain⟨Y,h2,h3⟩:=hV;simp only[aP.len,aP.e,yt3]at Y;refine List.ext_getElem (by simp[Y]) (λj V hj2=>?_);have hj:j<xs.length:=by omega
  have:=h3 j _ (ye hj);rw[ye V]at this;rw[yb this];simp
 have U:=hS.len w;have H:=hS.cells;have hnl:=hS.newsLen;have W: ∃a c,cv= .slice a xs.length c:=by
  cases cv<;>simp[Builtin.lenOf]at U
  ·cases Z with
   |lit v h=>
    unfold Bt at N;rw[O]at N;simp at N
   |imm β p v h hs=>cases h;simp[PV.isSl]at hs
   |dead v Y h2=>simp[view]at hv
  ·exact⟨_,_,by rw[U];rfl⟩
 obtain⟨a,c,rfl⟩:=W;rw[run_convert_bytes_string w M dst e a xs.length c O he hd];cases a with
 |none=>
  simp[Builtin.firstCells]at H;have:K= []:=by
   cases K with
   |nil=>rfl
   |cons=>simp at H
  rw[this]at J;have:xs= []:=List.map_eq_nil_iff.1 J.symm;subst this;rfl
 |some a=>
  simp only[Builtin.firstCells,aP.e,aP.len,yt3]at H;rw[run_bytesToString w a _ c xs (by rw[<-J];exact H),Li]
end
end Go.Ab
end
section
namespace Go.Ab
variable [cS]
theorem Wo{vs:Array Value}(h:vs.size=1): ∃x,vs= #[x]:=by
 obtain⟨l⟩:=vs
 match l,h with
 | [x],_=>exact⟨x,rfl⟩
theorem Wp{vs:Array Value}(h:vs.size=2): ∃x y,vs= #[x,y]:=by
 obtain⟨l⟩:=vs
 match l,h with
 | [x,y],_=>exact⟨x,y,rfl⟩
section
variable {P:Program}
def rR(P:Program)(G:Gh)(w:World)(mem:aO)(o:Oper)(a:Act)(out:dY):Prop:=
 ∀(K:Act->World->Prop) (Q:Exit->Act->World->Prop),(∀G' w' cv,VR G' w' out.v cv->dH G G'->Ev G w w'->aJ G' w' (out.apply mem)->K (a.put o.dst cv) w')->o.wp P a w K Q
def Pr(P:Program)(G:Gh)(w:World)(mem:aO)(g:FuncId)(args:Array Value)(out:dY):Prop:=
 (callFunc g args).run P w= .ok (.enter g args) w/\
 Calls P g args w λe w'=> ∃G' cv,e= .returned cv/\VR G' w' out.v cv/\dH G G'/\Ev G w w'/\aJ G' w' (out.apply mem)
variable {G:Gh} {w:World} {mem:aO} {o:Oper} {a:Act} {out:dY}
theorem nI.opW(h:nI P G w mem o a out):rR P G w mem o a out:=by
 intro K Q hK;obtain⟨N,U,nx,cv,H,M,V,O,J,hM⟩:=h;unfold Oper.wp;rw[H];rcases M with rfl|⟨rfl,rfl⟩
 ·exact hK N U cv V O J hM
 ·exact hK N U undef V O J hM
theorem rR.value{s:Sem Value}(O:execOp a.eval o=(do pure (Next.value (<-s))))
  (h: ∃K H cv,s.run P w= .ok cv H/\VR K H out.v cv/\dH G K/\Ev G w H/\aJ K H (out.apply mem)):rR P G w mem o a out:=by
 obtain⟨K,H,cv,J,U,N,M,hM⟩:=h;refine nI.opW ⟨K,H,.value cv,cv,?_,.inl rfl,U,N,M,hM⟩;rw[O];simp only[Sem.run_bind,J,Result.andThen_ok,Sem.run_pure]
theorem rR.still{s:Sem Value}(hM:aJ G w mem)(M:execOp a.eval o=(do pure (Next.value (<-s)))){cv:Value}(J:out.wr= [])(K:out.push= [])
  (H:s.run P w= .ok cv w) (N:VR G w out.v cv):rR P G w mem o a out:=
 rR.value M ⟨G,w,cv,H,N,dH.refl G,Ev.refl G w,by simp only[dY.apply,J,K,aR,ys1];exact hM⟩
theorem rR.plain(hM:aJ G w mem){cv:Value}(K:execOp a.eval o=pure (Next.value cv))(H:out.wr= [])(J:out.push= [])(M:VR G w out.v cv):rR P G w mem o a out:=
 nI.opW ⟨G,w,.value cv,cv,by rw[K];simp,.inl rfl,M,dH.refl G,Ev.refl G w,by simp only[dY.apply,H,J,aR,ys1];exact hM⟩
theorem pU{ρ:Operand->Option AV}(J:TX G w ρ a){x:Option Operand}{r:Option Int}(h:CI ρ x=some r):qS r (x.map a.eval):=by
 cases x with
 |none=>simp[CI]at h;subst h;exact trivial
 |some x=>
  simp only[CI]at h;rw[bind_some]at h;obtain⟨v,K,h⟩:=h;unfold QE at h;split at h
  ·simp at*
  ·rename_i k n H;obtain rfl:=yb H;obtain rfl:=yb h;have:=(J x _ K).lit_inv;exact⟨k,by simp[this]⟩
  ·simp at h
theorem qK{t H:TypeId}(h:elemOf? P t=some H):P.underlying t=some (.slice H):=by
 unfold elemOf? at h;split at h
 ·obtain rfl:=yb h;assumption
 ·simp at h
theorem qB{l:List Nat}(h:gV l=true):l= []:=by cases l<;>simp_all[gV]
theorem Pp{k:IntKind}{z:AV}{K:Value}{J:List Int}{n:Nat}(h:gP k [z]=some J)(M:VR G w z K):bW G w (.ints k (List.replicate n (J.headD 0))) (flat (List.replicate n K))/\K.cells.size=1:=by
 obtain⟨U,N⟩:=Cr h;obtain⟨x,rfl⟩: ∃x,J= [x]:=by
  match J,U with
  | [x],_=>exact⟨x,rfl⟩
 have:=N 0 x rfl;simp at this;subst this;obtain rfl:=M.lit_inv;have hf:flat (List.replicate n (Value.int k x))=List.replicate n (.int k x):=by
  rw[gN];have hc:(Value.int k x).cells.toList= [.int k x]:=rfl;rw[hc]
  induction n with
  |zero=>rfl
  |succ n V=>rw[yz3,List.flatten_cons,V,yz3];rfl
 rw[hf];refine⟨⟨by simp[aP.len,aP.e],λu O=>by rw[(ya3.1 O).2];rfl,λi y H=>?_⟩,rfl⟩;simp only[List.headD_cons]at H;rw[yt1]at H⊢
 split at H
 ·rw[if_pos (by assumption)];rw[<-yb H]
 ·simp at H
theorem KB{t:TypeId}{z:AV}{U:Value}{q:Bool×PV×List Nat}{n e:Nat}(hM:aJ G w mem)(h:yQ P mem t z=some q)(hz:VR G w z U)(Y:z.cells.length=e)(h1:1≤e)(hq:q.2.2= []):
  bW G w (.pvs q.1 e (List.replicate n q.2.1)) (flat (List.replicate n U))/\U.cells.size=e:=by
 obtain⟨ql,qq⟩:=vP hM h hz;have N:U.cells.size=e:=by rw[<-Y];simpa using hz.cells.1.symm
 have M: ∀u∈List.replicate n U,u.cells.size=e:=λu H=>by rw[(ya3.1 H).2];exact N
 have hfl:=jP M;have V: ∀(i:Nat) (x:PV) (c:Nat) (y:PV),(List.replicate n q.2.1)[i]?=some x->x.cells[c]?=some y->∃u,(flat (List.replicate n U))[i*e+c]?=some u/\PR w (G.prot q.1) y u/\u.oneCell'=true:=by
  intro i x c y K Z;rw[yt1]at K;split at K
  ·rename_i hi;obtain rfl:=yb K;have hce:c<e:=by rw[<-Y,<-ql];exact(yd.1 Z).1
   obtain⟨u,H,O,J⟩:=qq c y Z;refine⟨u,by rw[sO M (u:=U) (by rw[yt1,if_pos hi]) hce];exact H,O.mono (λB o W=>?_) (λ_ _ _=>rfl),J⟩;rcases W with W|⟨b,W,_⟩
   ·exact W
   ·rw[hq]at W;simp at W
  ·simp at K
 refine⟨⟨by simp only[aP.len,aP.e];rw[hfl];simp,λu H=>?_,λx K=>by rw[(ya3.1 K).2,ql,Y],λi x c y K Z=>?_⟩,N⟩
 ·obtain⟨v,hv,H⟩:=N7 H;rw[(ya3.1 hv).2]at H;obtain⟨j,hj,rfl⟩:=yb2 H;have hj2:j<q.2.1.cells.length:=by rw[ql,Y,<-N];simpa using hj
  obtain⟨u,H,_,J⟩:=qq j _ (ye hj2);rw[ye hj]at H;rw[yb H];exact J
 ·obtain⟨u,H,O,_⟩:=V i x c y K Z;exact⟨u,H,O⟩
theorem PS{t tx ty:TypeId}{rs:Nat}{n:Int}{kn:IntKind}(hM:aJ G w mem)(hrs:mem[rs]?=some none)(h:FZ P t tx mem rs n=some out):
  ∃W V cv,(Builtin.append_ #[t,tx] ty #[.slice none 0 0,.int kn n]).run P w= .ok cv V/\VR W V out.v cv/\dH G W/\Ev G w V/\aJ W V (out.apply mem):=by
 unfold FZ at h;split at h
 ·rename_i kx hkx;rw[bind_some]at h;obtain⟨M,het,h⟩:=h;rw[bind_some]at h;obtain⟨z,hz,h⟩:=h;split at h
  ·rw[bind_some]at h;obtain⟨q,hq,h⟩:=h;rw[bind_some]at h;obtain⟨e,he,h⟩:=h;rw[bind_some]at h;obtain⟨bytes,N,h⟩:=h;rw[aA]at h;obtain⟨hg,h⟩:=h;simp only[yc,decide_eq_true_eq]at hg;obtain⟨⟨g0,O⟩,⟨⟨Y,g2⟩,g3⟩,g4⟩:=hg;have O:=dA.1 O;have Y:=dA.1 Y;have g2:=dA.1 g2;have g3:=bZ.1 g3;have g4:=qB g4;obtain rfl:=yb h;obtain⟨i,H,hi,Z,hov⟩:=mW hz;have hzr:VR G w z H:=oG hov;obtain⟨m,rfl⟩: ∃m:Nat,n=(m:Int):=⟨n.toNat,by omega⟩
   rw[yz]at O⊢
   obtain⟨hv,U⟩:=KB (n:=m) hM hq hzr g3 Y g4;have his:i.size=e:=by unfold k8 at he;rw[hi]at he;simpa using he
   have hib:i.bytes≤4096:=by unfold l8 at N;rw[hi]at N;simp at N;omega
   have hfit:=Ax O hib;have J:=Lib.run_append_nil_zeros (P:=P) w t tx ty M i H kn kx (qK het) hkx hi Z m (by omega) (by omega) (by unfold bU at O;omega) (by omega);have hrc:=lJ H.cells (by omega) m;have hc:Builtin.zeroCells H.cells m=(flat (List.replicate m H)).toArray:=by
    rw[<-yx2 (xs:=Builtin.zeroCells H.cells m),gN,<-hrc];rfl
   have K:m≤grownCap w m 0 M:=grownCap_ge w _ _ _;rw[hc]at J;have hMd:=hM.ev (Ev.drew G w) (.inl rfl) (λB _=>rfl);have hvd:bW G w.drew (bC.pvs q.1 e (List.replicate m q.2.1)).all (flat (List.replicate m H)):=hv.mono (dH.refl G) (Ev.drew G w);obtain⟨W,rfl,hg',hev,hM',hl⟩:=Jy (row:= .pvs q.1 e (List.replicate m q.2.1)) (vs:=flat (List.replicate m H)) (rest:=Builtin.zeroCells H.cells (grownCap w m 0 M-m)) (t:=M) hMd hrs Y rfl hvd;have hfl:(flat (List.replicate m H)).length=m*e:=by
    rw[jP (e:=e) (us:=List.replicate m H) (λu hu=>by rw[(ya3.1 hu).2];exact U)];simp
   refine⟨_,_,_,J,?_,hg',(Ev.drew G w).trans (dH.refl G) hev,by simpa[dY.apply,aR]using hM'⟩;generalize grownCap w m 0 M=C at K J⊢
   have hk:VR (G.put rs 0 ⟨some w.drew.heap.size,(bC.pvs q.1 e (List.replicate m q.2.1)).e,(bC.pvs q.1 e (List.replicate m q.2.1)).len,0⟩) (w.drew.alloc (.cells ((flat (List.replicate m H)).toArray++Builtin.zeroCells H.cells (C-m)) M)) (.msw rs 0) (.slice (some ⟨w.heap.size,0,none⟩) m C):=by
    have:=VR.msw (G:=G.put rs 0 ⟨some w.drew.heap.size,(bC.pvs q.1 e (List.replicate m q.2.1)).e,(bC.pvs q.1 e (List.replicate m q.2.1)).len,0⟩) (w:=w.drew.alloc (.cells ((flat (List.replicate m H)).toArray++Builtin.zeroCells H.cells (C-m)) M)) rs 0 C _ w.drew.heap.size (Gh.put_self ..) rfl (by simp[bC.len];exact K) (λj hj=>by
     rw[mO];simp only[bC.e,ye1]at hj;have hjs:j<((flat (List.replicate m H)).toArray++Builtin.zeroCells H.cells (C-m)).size:=by
      simp only[Array.size_append,List.size_toArray,size_zeroCells,hfl,U];rw[<-yz1];exact yn2 hj (yr2 _ (by omega))
     rw[yg2 hjs];rfl)
    simpa[bC.len]using this
   exact hk
  ·cases h
 ·cases h
theorem IG{boxed vars:Bool}{b:Builtin}{ts:Array TypeId}{ty:TypeId}{consts:Array Bool}{rs:Nat}{args:List AV}{vs:Array Value}(hM:aJ G w mem)(V:b= .append->mem[rs]?=some none)
  (h:eZ P boxed vars b ts.toList mem rs args=some out) (J:rZ G w args vs):
  ∃s:Sem Value,builtin b ts ty consts vs=(do pure (Next.value (<-s)))/\∃G' W cv,s.run P w= .ok cv W/\VR G' W out.v cv/\dH G G'/\Ev G w W/\aJ G' W (out.apply mem):=by
 have Y: ∀j,vs.getD j undef=vs.toList.getD j undef:=λj=>(fA vs j).symm;unfold eZ at h;split at h
 ·rename_i t x M;obtain⟨n,hn,rfl⟩:=yf.1 h;have H:ts= #[t]:=by rw[<-M,yx2]
  obtain⟨x',rfl⟩:=Wo J.1.symm;have K:=J.2 0 x rfl;simp at K;subst H;exact⟨_,rfl,G,w,_,Oo hM hn K,.lit _ rfl,dH.refl G,Ev.refl G w,by simpa[dY.apply,aR]using hM⟩
 ·rename_i t Z kn n M;have H:ts= #[t,Z]:=by rw[<-M,yx2]
  obtain⟨x',y',rfl⟩:=Wp J.1.symm;have K:=J.2 0 _ rfl;have O:=J.2 1 _ rfl;simp at K O;obtain rfl:=K.lit_inv;obtain rfl:=O.lit_inv;subst H;exact⟨_,rfl,PS hM (V rfl) h⟩
 ·rename_i t Z x y hno M;have H:ts= #[t,Z]:=by rw[<-M,yx2]
  obtain⟨x',y',rfl⟩:=Wp J.1.symm;have K:=J.2 0 x rfl;have O:=J.2 1 y rfl;simp at K O;subst H;exact⟨_,rfl,Kg hM (V rfl) h K O⟩
 ·rename_i t M;have H:ts= #[t]:=by rw[<-M,yx2]
  obtain⟨x',rfl⟩:=Wo J.1.symm;have K:=J.2 0 _ rfl;simp at K;obtain rfl:=K.lit_inv;subst H;split at h
  ·rename_i et hu;obtain rfl:=yb h;exact⟨_,rfl,G,w,.int .i64 0,by simp[Builtin.cap_,run_underlying hu,goInt],.lit _ rfl,dH.refl G,Ev.refl G w,by simpa[dY.apply,aR]using hM⟩
  ·cases h
 ·rename_i k a r;obtain⟨v,U,rfl⟩:=yf.1 h;have K:=J.2 0 _ rfl;obtain⟨x',N,hvs⟩: ∃x' N,vs.toList=x'::N:=by
   cases hh:vs.toList with
   |nil=>have:=J.1;rw[<-yi2,hh]at this;simp at this
   |cons x' N=>exact⟨x',N,rfl⟩
  rw[Y,hvs]at K;obtain rfl:=K.lit_inv;have:=zF (P:=P) (G:=G) (w:=w) (op:=Builtin.min2) (f:=Vt k) (k:=k) (λa b=>by simp[Builtin.min2,Vt,Bool.cond_decide]) U
   ⟨by have:=J.1;rw[<-yi2,hvs]at this;simpa using this,λj y O=>by have:=J.2 (j+1) y (by simpa using O);rw[Y,hvs]at this;simpa using this⟩
  refine⟨_,rfl,G,w,.int k v,?_,.lit _ rfl,dH.refl G,Ev.refl G w,by simpa[dY.apply,aR]using hM⟩;simp only[Builtin.min_,hvs];exact this
 ·rename_i k a r;obtain⟨v,U,rfl⟩:=yf.1 h;have K:=J.2 0 _ rfl;obtain⟨x',N,hvs⟩: ∃x' N,vs.toList=x'::N:=by
   cases hh:vs.toList with
   |nil=>have:=J.1;rw[<-yi2,hh]at this;simp at this
   |cons x' N=>exact⟨x',N,rfl⟩
  rw[Y,hvs]at K;obtain rfl:=K.lit_inv;have:=zF (P:=P) (G:=G) (w:=w) (op:=Builtin.max2) (f:=Vp k) (k:=k) (λa b=>by simp[Builtin.max2,Vp,Bool.cond_decide]) U
   ⟨by have:=J.1;rw[<-yi2,hvs]at this;simpa using this,λj y O=>by have:=J.2 (j+1) y (by simpa using O);rw[Y,hvs]at this;simpa using this⟩
  refine⟨_,rfl,G,w,.int k v,?_,.lit _ rfl,dH.refl G,Ev.refl G w,by simpa[dY.apply,aR]using hM⟩;simp only[Builtin.max_,hvs];exact this
 ·simp at h
theorem aJ.sameCells{G:Gh}{w H:World}{mem:aO}(hM:aJ G w mem)(K:Ev G w H)(hc: ∀B o,cl H B o=cl w B o)(hs:H.heap.size=w.heap.size)(hf: ∀B,jA w B->jA H B):aJ G H mem where
 box b x h:=by
  have Y:=hM.box b x h;obtain⟨o,a0,Z,M,hm⟩:=Y.loc;refine⟨Y.e,o,a0,Z,M,?_⟩;cases o with
  |none=>exact hm
  |some B=>
   obtain⟨N,W,U,V,O⟩:=hm;exact⟨N,by rw[hs];exact W,hf B U,V.mono (dH.refl G) K (λo _=>hc B o) (λi c B' J=>⟨⟨hc B',hf B'⟩,(hM.inn h ⟨_,Z,rfl⟩ J).2.2.2⟩),O⟩
 unset:=hM.unset
 gens:=hM.gens
 apart:=hM.apart
 inA b b' x x' B i c B' h k J h':=hM.inA b b' x x' B i c B' h k (J.same (hc B)) h'
 inB b b' x x' B C i c i' c' B' h k J h' k' hi':=hM.inB b b' x x' B C i c i' c' B' h k (J.same (hc B)) h' k' (hi'.same (hc C))
 own B h:=hM.own B (by rw[<-hs];exact h)
 lab:=hM.lab
 away β B o h:=by rw[hs];exact hM.away β B o h
 glob:=hM.glob.mono (λ_ _ h=>h) (K.prot true)
theorem VK{w:World}{B:Nat}(hf:jA w B):
  ∃H,(∀k,(markStringish ⟨B,k,none⟩).run P w= .ok () H)/\(∀B' o,cl H B' o=cl w B' o)/\H.heap.size=w.heap.size/\H.output=w.output/\H.os=w.os/\H.tape=w.tape/\(∀B',B'≠B->H.heap[B']?=w.heap[B']?)/\
   (∀B',jA w B'->jA H B'):=by
 obtain⟨c,el,K,M,U,hr⟩:=hf;refine⟨w.freeze ⟨B,c.size,none⟩ 1,λk=>?_,?_⟩
 ·simp[markStringish,World.shape?,U]
 have O:(w.freeze ⟨B,c.size,none⟩ 1).heap[B]?=some (.cells c el (if K==M then(c.size,c.size+1)else(min K c.size,max M (c.size+1)))):=by
  unfold World.freeze;rw[if_neg (by decide)];simp only[Array.getElem?_modify,if_true,U,yl]
 have J: ∀B',B'≠B->(w.freeze ⟨B,c.size,none⟩ 1).heap[B']?=w.heap[B']?:=λB' e=>by
  unfold World.freeze;rw[if_neg (by decide)];simp only[Array.getElem?_modify];rw[if_neg (λh=>e h.symm)]
 have N:(w.freeze ⟨B,c.size,none⟩ 1).heap.size=w.heap.size:=by
  unfold World.freeze;rw[if_neg (by decide)];simp
 refine⟨λB' o=>?_,N,rfl,rfl,rfl,J,λB' hf=>?_⟩
 ·by_cases e:B'=B
  ·subst e;unfold cl World.cell?;simp[O,U]
  ·exact eE (J B' e) o
 ·by_cases e:B'=B
  ·subst e;by_cases h:K=M
   ·exact⟨c,el,c.size,c.size+1,by rw[O];simp[h],.inr (yb1 _)⟩
   ·have V:c.size≤K:=hr.resolve_left h;exact⟨c,el,min K c.size,max M (c.size+1),by rw[O];simp[h],.inr (by omega)⟩
  ·exact hf.of_heap (J B' e)
theorem II{boxed:Bool}{K dst:TypeId}{rs:Nat}{x:AV}{cv:Value}(hM:aJ G w mem)(h:n8 P boxed K dst mem rs x=some out)(Z:VR G w x cv):
  ∃O J r,(convert K dst cv).run P w= .ok r J/\VR O J out.v r/\dH G O/\Ev G w J/\aJ O J (out.apply mem):=by
 have still: ∀{o:dY} {r:Value},o.wr= []->o.push= []->(convert K dst cv).run P w= .ok r w->VR G w o.v r->
   ∃O J r,(convert K dst cv).run P w= .ok r J/\VR O J o.v r/\dH G O/\Ev G w J/\aJ O J (o.apply mem):=
  λh1 h2 hr hv=>⟨G,w,_,hr,hv,dH.refl G,Ev.refl G w,by simp only[dY.apply,h1,h2,aR,ys1];exact hM⟩
 unfold n8 at h;split at h
 ·rename_i k1 k n kk hs Y;obtain rfl:=yb h;obtain rfl:=Z.lit_inv;exact still rfl rfl (by simp[convert,run_underlying hs,run_underlying Y,Conv.intToInt]) (.lit _ rfl)
 ·rename_i s hs Y;obtain rfl:=yb h;obtain rfl:=Z.lit_inv;exact still rfl rfl (by simp[convert,run_underlying hs,run_underlying Y]) (.lit _ rfl)
 ·rename_i e hs Y;split at h
  ·rename_i he;rw[bind_some]at h;obtain⟨v,hv,h⟩:=h;rw[aA]at h;obtain⟨hg,h⟩:=h;simp only[yc]at hg;obtain⟨vw,rd⟩:=v;simp only at h hv;split at h
   ·rename_i xs;obtain rfl:=yb h;have ht:k8 P e=some 1:=by
     have:=hg.2;split at this
     ·assumption
     ·simp at this
    exact still rfl rfl (Ms hM hs he Y hv ht hg.1 Z) (.lit _ rfl)
   ·simp at h
  ·simp at h
 ·rename_i e0 e b g hs Y;split at h
  ·rename_i he;rw[aA]at h;obtain⟨N,h⟩:=h;rw[bind_some]at h;obtain⟨bx,hbx,h⟩:=h;rw[aA]at h;obtain⟨h1,h⟩:=h;obtain rfl:=yb h;have N:=bZ.1 N;have h1:=dA.1 h1;have M:=box?_some hbx;obtain⟨o,a0,hl,ha0,hm⟩:=(hM.box b bx M.1).loc;rw[M.2]at hl;have V: ∃B a1 cap,cv= .slice (some ⟨B,a1,none⟩) bx.row.len cap/\G.mine B/\jA w B:=by
    cases Z with
    |msw _ _ cap L B H hb hn hf=>
     rw[hl]at H;obtain rfl:=yb H;simp only at hb;subst hb;exact⟨B,_,cap,rfl,hm.1,hm.2.2.1⟩
    |mswNil _ _ L H hb hn=>
     rw[hl]at H;obtain rfl:=yb H;simp only at hn;omega
   obtain⟨B,a1,cap,rfl,U,hF⟩:=V;obtain⟨w1,hrun,hc,hsz,ho,hos,htp,hne,hfr⟩:=VK (P:=P) hF
   have W:Ev G w w1:=⟨by rw[hsz];exact yb1 _,ho,hos,λB' _ hn=>hne B' (λe=>hn (by rw[e];exact U)),λB' j hs=>by rw[hc];exact hs,λ_ B' j _=>hc B' j,
    λB' j hj=>by
     by_cases e:B'=B
     ·subst e;rw[hF.cell hj,(hfr _ hF).cell (by rw[hc];exact hj)]
     ·exact JD (hne B' e) j,htp⟩
   refine⟨G,w1,_,?_,Z.mono (dH.refl G) W,dH.refl G,W,by simp only[dY.apply,aR,ys1];exact hM.sameCells W hc hsz hfr⟩;subst N;simp[convert,run_underlying hs,run_underlying he,hrun]<;>simp_all[run_underlying]
  ·simp at h
 ·simp at h
end
end Go.Ab
end
