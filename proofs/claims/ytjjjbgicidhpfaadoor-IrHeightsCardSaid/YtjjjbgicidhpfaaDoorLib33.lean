import Derived.Test.YtjjjbgicidhpfaaDoorLib32
set_option linter.unusedVariables false
set_option linter.unusedSectionVars false
set_option linter.unusedSimpArgs false
namespace Go.Ab
variable [cS]
open Go.RowKit
variable {P:Program} {H:Type} {enc:TypeId×Value->H} {w:World}
theorem size_pos: ∀T:Ty,1≤T.size
 | .int _=>yb1 _
 | .bool=>yb1 _
 | .str=>yb1 _
 | .sl _ _=>yb1 _
 | .cons a b=>yv2 (size_pos a) (Nat.le_add_right _ _)
theorem Jg{w:World}{a:Addr}{v:Value}(h:w.cell? a=some v):a.spot=none/\a.block<w.heap.size:=by
 refine⟨World.cell?_spot h,?_⟩;unfold World.cell? at h;rcases yq2 a.block w.heap.size with J|J
 ·exact J
 ·rw[Array.getElem?_eq_none J]at h;cases h
def Ic(w:World)(T:Ty)(v:Value):Prop:= ∃x:den T,JX T x/\∃p,aV T x= [p]/\v.oneCell'=true/\PR w (D4 w) p v
def LP(w:World)(T:Ty)(n:Nat)(cs:List Value):Prop:= ∃x:den T,JX T x/\V8 w T x n cs
theorem IJ{J:TypeId->Ty->Bool}{R:TypeId->Value->Prop}(K: ∀t T v,J t T=true->R t v->Ic w T v){cs:List Value}: ∀{l:List (Nat×TypeId)} {n:Nat} {T:Ty},
  Bc J n l T=true->(∀q∈l,∃v,cs[q.1]?=some v/\R q.2 v)->LP w T n cs
 | [],n,T,h,hr=>by cases h
 | [q],n,T,h,hr=>by
  have h:(Nat.beq q.1 n&&J q.2 T)=true:=h;rw[yc]at h;obtain⟨v,O,hR⟩:=hr q (yi1.2 rfl);obtain⟨x,hf,p,W,V,N⟩:=K _ _ _ h.2 hR;refine⟨x,hf,λj y M=>?_⟩;rw[W]at M;cases j with
  |zero=>
   simp at M;subst M;rw[nb.1 h.1]at O;exact⟨v,O,V,N⟩
  |succ j=>simp at M
 |q::U::r,n,.cons a b,h,hr=>by
  have h:(Nat.beq q.1 n&&J q.2 a&&Bc J (n+1) (U::r) b)=true:=h;simp only[yc]at h;obtain⟨v,O,hR⟩:=hr q (yn ..);obtain⟨x,hf,p,W,V,N⟩:=K _ _ _ h.1.2 hR;obtain⟨z,Y,ht⟩:=IJ K h.2 λq Z=>hr q (yk _ Z);refine⟨(x,z),⟨hf,Y⟩,λj y M=>?_⟩;have M:(aV a x++aV b z)[j]?=some y:=M;rw[W]at M;cases j with
  |zero=>
   simp at M;subst M;rw[nb.1 h.1.1]at O;exact⟨v,O,V,N⟩
  |succ j=>
   have:=ht j y (by simpa using M);rw[show n+(j+1)=n+1+j by omega];exact this
 |q::U::r,n,.int _,h,hr|q::U::r,n,.bool,h,hr|q::U::r,n,.str,h,hr|q::U::r,n,.sl _ _,h,hr=>by cases h
theorem N8(ag:Bool)(T:Ty)(a:Option Addr):Ic w (.sl ag T) (.slice a 0 0):=by
 refine⟨([]:List (den T)),⟨Nat.zero_le _,λx K=>by cases K⟩,_,rfl,rfl,?_⟩;cases J:bD ag T with
 |true=>
  obtain⟨rfl,k,rfl⟩:=aS.1 J;exact .intsNil k a
 |false=>
  show PR w (D4 w) (eJ ag T []) (.slice a 0 0);rw[cO J];exact .slNil _ a
theorem r7{α:Type}{f:Nat->α}{n i:Nat}{x:α}(K:((List.range n).map f)[i]?=some x):i<n/\x=f i:=by
 rw[yh1]at K;obtain⟨i',J,rfl⟩:=yf.1 K;rcases yq2 i n with h|h
 ·rw[List.getElem?_range h]at J;obtain rfl:=yb J;exact⟨h,rfl⟩
 ·rw[yc1 (by simpa using h)]at J;cases J
theorem Pu{ag:Bool}{T:Ty}{a:Addr}{len cap:Nat}(hlc:len≤cap)(hcm:cap≤reachBytes)
  (h: ∀i,i<cap->∃Z,w.cells? 0 (a.add (i*T.size)) T.size=some Z/\LP w T 0 Z):Ic w (.sl ag T) (.slice (some a) len cap):=by
 rcases Nat.eq_zero_or_pos cap with rfl|hpos
 ·obtain rfl:len=0:=by omega
  exact N8 ag T _
 have hs:=size_pos T;obtain⟨B,o,Y⟩:=a;obtain rfl:Y=none:=by
  obtain⟨Z,W,_⟩:=h 0 hpos;obtain⟨_,hlen,N⟩:=World.cells?_some W;have h0:=N 0 (by omega);rw[ye (by omega)]at h0;have:=(Jg h0).1;simpa[Addr.add]using this
 have U: ∀i,i<cap->∃x:den T,JX T x/\∀(j:Nat) (y:PV),(aV T x)[j]?=some y->∃v,cl w B (o+i*T.size+j)=some v/\v.oneCell'=true/\PR w (D4 w) y v:=by
  intro i K;obtain⟨Z,W,x,hf,ht⟩:=h i K;obtain⟨_,hlen,N⟩:=World.cells?_some W;refine⟨x,hf,λj y hy=>?_⟩;obtain⟨v,M,ho,hp⟩:=ht j y hy;rw[ye1]at M;have hj:j<T.size:=by
   rcases yq2 j Z.length with h|h
   ·omega
   ·rw[yc1 h]at M;cases M
  refine⟨v,?_,ho,hp⟩;have:=N j hj;rw[M,dU,dU]at this;exact this
 have O: ∃f:Nat->den T,∀i,i<cap->JX T (f i)/\∀(j:Nat) (y:PV),(aV T (f i))[j]?=some y->∃v,cl w B (o+i*T.size+j)=some v/\v.oneCell'=true/\PR w (D4 w) y v:=by
  classical
  refine⟨λi=>if K:i<cap then Classical.choose (U i K)else Sh.dflt.dT T,λi K=>?_⟩;simp only[K,dif_pos];exact Classical.choose_spec (U i K)
 obtain⟨f,hf⟩:=O;have J:((List.range len).map f).length=len:=by rw[ym1,yy2]
 refine⟨(List.range len).map f,⟨(show((List.range len).map f).length≤reachBytes by omega),λx V=>?_⟩,_,rfl,rfl,?_⟩
 ·obtain⟨i,K⟩:=List.mem_iff_getElem?.1 V;obtain⟨K,rfl⟩:=r7 K;exact(hf i (by omega)).1
 cases K:bD ag T with
 |true=>
  obtain⟨rfl,k,rfl⟩:=aS.1 K;have: ∀n,((List.range len).map f).length=n->PR w (D4 w) (.ints k ((List.range len).map f)) (.slice (some ⟨B,o,none⟩) n cap):=by
   intro n hn;subst hn;refine .ints k _ B o cap (yv2 (Nat.le_of_eq J) hlc) λi x V=>?_;obtain⟨K,rfl⟩:=r7 V;obtain⟨v,M,_,hp⟩:=(hf i (by omega)).2 0 (.lit (.int k (f i))) rfl;have M:cl w B (o+i)=some v:=by simpa[Ty.size]using M
   cases hp;exact⟨M,(Jg M).2⟩
  exact this len J
 |false=>
  show PR w (D4 w) (eJ ag T ((List.range len).map f)) _;rw[cO K];have:PR w (D4 w) (.sl T.size (((List.range len).map f).map (c9 ag T))) (.slice (some ⟨B,o,none⟩) (((List.range len).map f).map (c9 ag T)).length cap):=by
   have V: ∀{i:Nat} {x:PV},(((List.range len).map f).map (c9 ag T))[i]?=some x->i<len/\x=c9 ag T (f i):=by
    intro i x V;rw[yh1]at V;obtain⟨z,hz,rfl⟩:=yf.1 V;obtain⟨h,rfl⟩:=r7 hz;exact⟨h,rfl⟩
   have hc: ∀{i:Nat} {x:PV} {c:Nat} {y:PV},(((List.range len).map f).map (c9 ag T))[i]?=some x->x.cells[c]?=some y->∃v,cl w B (o+i*T.size+c)=some v/\v.oneCell'=true/\PR w (D4 w) y v:=by
    intro i x c y U O;obtain⟨K,rfl⟩:=V U;rw[cU]at O;exact(hf i (by omega)).2 c y O
   refine .sl T.size _ B o cap (λi c=>(cl w B (o+i*T.size+c)).getD undef) hs (by rw[ym1,J];exact hlc) (λx hx'=>?_) (λi x c y U O=>?_) (λi x c y U O=>?_) (λi x c y U O=>?_)
   ·obtain⟨i,K⟩:=List.mem_iff_getElem?.1 hx';obtain⟨K,rfl⟩:=V K;rw[cU,cD]
   ·obtain⟨v,M,_⟩:=hc U O;rw[M];exact⟨rfl,(Jg M).2⟩
   ·obtain⟨v,M,ho,_⟩:=hc U O;rw[M];exact ho
   ·obtain⟨v,M,_,hp⟩:=hc U O;rw[M];exact hp
  rw[ym1,J]at this;exact this
theorem Kl{rd:TypeId->Ty->Bool}{fuel:Nat}(ih: ∀(m:Nat) (t:TypeId) (T:Ty) (cs:List Value) (x:DataW H×List MemPlace),m<fuel->rd t T=true->yK enc P w m t cs=some x->Lw P t x.1->LP w T 0 cs)
  (t:TypeId) (T:Ty) (v:Value) (h:Fd P rd t T=true) (hr: ∃m y,m≤fuel/\yK enc P w m t [v]=some y/\Lw P t y.1):Ic w T v:=by
 obtain⟨m,y,hm,K,hw⟩:=hr;unfold Fd at h;split at h
 ·rename_i k ht;split at h
  ·rename_i k';obtain rfl:=yR.1 h;obtain⟨n,hn,_,M⟩:=DataW.trod_int ht K;obtain rfl:=(yd1 hn).1;exact⟨n,M,_,rfl,rfl,.lit _ rfl⟩
  ·cases h
 ·rename_i ht;split at h
  ·obtain⟨n,hn,_⟩:=DataW.trod_bool ht K;obtain rfl:=(yd1 hn).1;exact⟨n,trivial,_,rfl,rfl,.lit _ rfl⟩
  ·cases h
 ·rename_i ht;split at h
  ·obtain⟨n,hn,hx,J⟩:=DataW.trod_string ht K;obtain rfl:=(yd1 hn).1;subst hx;have:n.size≤reachBytes:=hw n.data.toList.length (by simp[DataW.weights]);exact⟨n,this,_,rfl,rfl,.lit _ rfl⟩
  ·cases h
 ·rename_i e ht;split at h
  ·rename_i ag Y;rw[yc,yc]at h;have J:=nb.1 h.1.2;have U:1≤P.bytesOf e:=Nat.le_of_ble_eq_true h.2;rcases Su ht K hw with hn|⟨a,len,cap,m',hn,V,hcm,hfu,N,O⟩
   ·obtain rfl:=(yd1 hn).1;exact N8 ag Y _
   ·obtain rfl:=(yd1 hn).1;have W:cap≤reachBytes:=yv2 (Nat.le_mul_of_pos_right cap U) N;refine Pu V W λi hi=>?_;obtain⟨Z,y',h1,h2,h3⟩:=O i hi;rw[J]at h1;exact⟨Z,h1,ih m' e Y Z y' (by omega) h.1.1 h2 h3⟩
  ·cases h
 ·cases h
theorem JP{J:TypeId->Ty->Bool}: ∀{l:List (Nat×TypeId)} {n:Nat} {T:Ty},Bc J n l T=true->∀q∈l,∃N,J q.2 N=true
 | [],n,T,h,q,K=>by cases K
 | [p],n,T,h,q,K=>by
  have h:(Nat.beq p.1 n&&J p.2 T)=true:=h;rw[yc]at h;obtain rfl:=yi1.1 K;exact⟨T,h.2⟩
 |p::M::r,n,.cons a b,h,q,K=>by
  have h:(Nat.beq p.1 n&&J p.2 a&&Bc J (n+1) (M::r) b)=true:=h;simp only[yc]at h;rcases yk1.1 K with rfl|K
  ·exact⟨a,h.1.2⟩
  ·exact JP h.2 q K
 |p::M::r,n,.int _,h,q,K|p::M::r,n,.bool,h,q,K|p::M::r,n,.str,h,q,K|p::M::r,n,.sl _ _,h,q,K=>by cases h
theorem GD{rd:TypeId->Ty->Bool}{t:TypeId}{T:Ty}(h:Fd P rd t T=true):AI P t:=by
 unfold Fd at h;split at h
 ·rename_i k ht;exact .inl ⟨k,ht⟩
 ·rename_i ht;exact .inr (.inl ht)
 ·rename_i ht;exact .inr (.inr (.inl ht))
 ·rename_i e ht;exact .inr (.inr (.inr ⟨e,ht⟩))
 ·cases h
theorem RK: ∀(fuel k:Nat) (t:TypeId) (T:Ty) (cs:List Value) (x:DataW H×List MemPlace),RJ P k t T=true->yK enc P w fuel t cs=some x->Lw P t x.1->LP w T 0 cs:=by
 intro fuel
 induction fuel using Nat.strongRecOn with
 |ind fuel ih=>
  intro k t T cs x J h Z;cases k with
  |zero=>cases J
  |succ k=>
   unfold RJ at J;split at J
   ·rename_i l hl;refine IJ (R:=λt v=> ∃m y,m≤fuel/\yK enc P w m t [v]=some y/\Lw P t y.1) (Kl (rd:=RJ P k) λm t T cs x hm V U O=>ih m hm k t T cs x V U O) J λq N=>?_;obtain⟨T',K⟩:=JP J q N;obtain⟨m,v,y,hm,W,Y,M⟩:=FS 8 hl h Z q N (GD K);exact⟨v,W,m,y,hm,Y,M⟩
   ·cases J
end Go.Ab
