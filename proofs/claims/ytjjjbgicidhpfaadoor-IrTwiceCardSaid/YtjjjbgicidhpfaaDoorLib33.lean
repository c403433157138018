import Derived.Test.YtjjjbgicidhpfaaDoorLib32
set_option linter.unusedVariables false
set_option linter.unusedSectionVars false
set_option linter.unusedSimpArgs false
namespace Go.Ab
variable [cF]
open Go.RowKit
variable {P:Program} {H:Type} {enc:TypeId×Value->H} {w:World}
theorem size_pos: ∀T:Ty,1≤T.size
 | .int _=>ya1 _
 | .bool=>ya1 _
 | .str=>ya1 _
 | .sl _ _=>ya1 _
 | .cons a b=>yq2 (size_pos a) (Nat.le_add_right _ _)
theorem F0{w:World}{a:Addr}{v:Value}(h:w.cell? a=some v):a.spot=none/\a.block<w.heap.size:=by
 refine⟨World.cell?_spot h,?_⟩;unfold World.cell? at h;rcases yl2 a.block w.heap.size with J|J
 ·exact J
 ·rw[Array.getElem?_eq_none J]at h;cases h
def Hp(w:World)(T:Ty)(v:Value):Prop:= ∃x:den T,H7 T x/\∃p,aQ T x= [p]/\v.oneCell'=true/\PR w (Bj w) p v
def KI(w:World)(T:Ty)(n:Nat)(cs:List Value):Prop:= ∃x:den T,H7 T x/\T8 w T x n cs
theorem HN{J:TypeId->Ty->Bool}{R:TypeId->Value->Prop}(K: ∀t T v,J t T=true->R t v->Hp w T v){cs:List Value}: ∀{l:List (Nat×TypeId)} {n:Nat} {T:Ty},
  zU J n l T=true->(∀q∈l,∃v,cs[q.1]?=some v/\R q.2 v)->KI w T n cs
 | [],n,T,h,hr=>by cases h
 | [q],n,T,h,hr=>by
  have h:(Nat.beq q.1 n&&J q.2 T)=true:=h;rw[yc]at h;obtain⟨v,U,hR⟩:=hr q (yh1.2 rfl);obtain⟨x,hf,p,W,V,N⟩:=K _ _ _ h.2 hR;refine⟨x,hf,λj y M=>?_⟩;rw[W]at M;cases j with
  |zero=>
   simp at M;subst M;rw[nb.1 h.1]at U;exact⟨v,U,V,N⟩
  |succ j=>simp at M
 |q::O::r,n,.cons a b,h,hr=>by
  have h:(Nat.beq q.1 n&&J q.2 a&&zU J (n+1) (O::r) b)=true:=h;simp only[yc]at h;obtain⟨v,U,hR⟩:=hr q (yn ..);obtain⟨x,hf,p,W,V,N⟩:=K _ _ _ h.1.2 hR;obtain⟨z,Y,ht⟩:=HN K h.2 λq Z=>hr q (yj _ Z);refine⟨(x,z),⟨hf,Y⟩,λj y M=>?_⟩;have M:(aQ a x++aQ b z)[j]?=some y:=M;rw[W]at M;cases j with
  |zero=>
   simp at M;subst M;rw[nb.1 h.1.1]at U;exact⟨v,U,V,N⟩
  |succ j=>
   have:=ht j y (by simpa using M);rw[show n+(j+1)=n+1+j by omega];exact this
 |q::O::r,n,.int _,h,hr|q::O::r,n,.bool,h,hr|q::O::r,n,.str,h,hr|q::O::r,n,.sl _ _,h,hr=>by cases h
theorem Lo(ag:Bool)(T:Ty)(a:Option Addr):Hp w (.sl ag T) (.slice a 0 0):=by
 refine⟨([]:List (den T)),⟨Nat.zero_le _,λx K=>by cases K⟩,_,rfl,rfl,?_⟩;cases J:a6 ag T with
 |true=>
  obtain⟨rfl,k,rfl⟩:=aO.1 J;exact .intsNil k a
 |false=>
  show PR w (Bj w) (dS ag T []) (.slice a 0 0);rw[cB J];exact .slNil _ a
theorem qC{α:Type}{f:Nat->α}{n i:Nat}{x:α}(K:((List.range n).map f)[i]?=some x):i<n/\x=f i:=by
 rw[yg1]at K;obtain⟨i',J,rfl⟩:=ye.1 K;rcases yl2 i n with h|h
 ·rw[List.getElem?_range h]at J;obtain rfl:=ya J;exact⟨h,rfl⟩
 ·rw[yd1 (by simpa using h)]at J;cases J
theorem M7{ag:Bool}{T:Ty}{a:Addr}{len cap:Nat}(hlc:len≤cap)(hcm:cap≤reachBytes)
  (h: ∀i,i<cap->∃es,w.cells? 0 (a.add (i*T.size)) T.size=some es/\KI w T 0 es):Hp w (.sl ag T) (.slice (some a) len cap):=by
 rcases Nat.eq_zero_or_pos cap with rfl|hpos
 ·obtain rfl:len=0:=by omega
  exact Lo ag T _
 have hs:=size_pos T;obtain⟨B,o,spot⟩:=a;obtain rfl:spot=none:=by
  obtain⟨es,W,_⟩:=h 0 hpos;obtain⟨_,Z,N⟩:=World.cells?_some W;have h0:=N 0 (by omega);rw[yf (by omega)]at h0;have:=(F0 h0).1;simpa[Addr.add]using this
 have U: ∀i,i<cap->∃x:den T,H7 T x/\∀(j:Nat) (y:PV),(aQ T x)[j]?=some y->∃v,cl w B (o+i*T.size+j)=some v/\v.oneCell'=true/\PR w (Bj w) y v:=by
  intro i K;obtain⟨es,W,x,hf,ht⟩:=h i K;obtain⟨_,Z,N⟩:=World.cells?_some W;refine⟨x,hf,λj y hy=>?_⟩;obtain⟨v,M,ho,Y⟩:=ht j y hy;rw[yc1]at M;have hj:j<T.size:=by
   rcases yl2 j es.length with h|h
   ·omega
   ·rw[yd1 h]at M;cases M
  refine⟨v,?_,ho,Y⟩;have:=N j hj;rw[M,dC,dC]at this;exact this
 have O: ∃f:Nat->den T,∀i,i<cap->H7 T (f i)/\∀(j:Nat) (y:PV),(aQ T (f i))[j]?=some y->∃v,cl w B (o+i*T.size+j)=some v/\v.oneCell'=true/\PR w (Bj w) y v:=by
  classical
  refine⟨λi=>if K:i<cap then Classical.choose (U i K)else Sh.dflt.dT T,λi K=>?_⟩;simp only[K,dif_pos];exact Classical.choose_spec (U i K)
 obtain⟨f,hf⟩:=O;have J:((List.range len).map f).length=len:=by rw[yk1,List.length_range]
 refine⟨(List.range len).map f,⟨(show((List.range len).map f).length≤reachBytes by omega),λx V=>?_⟩,_,rfl,rfl,?_⟩
 ·obtain⟨i,K⟩:=List.mem_iff_getElem?.1 V;obtain⟨K,rfl⟩:=qC K;exact(hf i (by omega)).1
 cases K:a6 ag T with
 |true=>
  obtain⟨rfl,k,rfl⟩:=aO.1 K;have: ∀n,((List.range len).map f).length=n->PR w (Bj w) (.ints k ((List.range len).map f)) (.slice (some ⟨B,o,none⟩) n cap):=by
   intro n hn;subst hn;refine .ints k _ B o cap (yq2 (Nat.le_of_eq J) hlc) λi x V=>?_;obtain⟨K,rfl⟩:=qC V;obtain⟨v,M,_,Y⟩:=(hf i (by omega)).2 0 (.lit (.int k (f i))) rfl;have M:cl w B (o+i)=some v:=by simpa[Ty.size]using M
   cases Y;exact⟨M,(F0 M).2⟩
  exact this len J
 |false=>
  show PR w (Bj w) (dS ag T ((List.range len).map f)) _;rw[cB K];have:PR w (Bj w) (.sl T.size (((List.range len).map f).map (cR ag T))) (.slice (some ⟨B,o,none⟩) (((List.range len).map f).map (cR ag T)).length cap):=by
   have V: ∀{i:Nat} {x:PV},(((List.range len).map f).map (cR ag T))[i]?=some x->i<len/\x=cR ag T (f i):=by
    intro i x V;rw[yg1]at V;obtain⟨z,hz,rfl⟩:=ye.1 V;obtain⟨h,rfl⟩:=qC hz;exact⟨h,rfl⟩
   have hc: ∀{i:Nat} {x:PV} {c:Nat} {y:PV},(((List.range len).map f).map (cR ag T))[i]?=some x->x.cells[c]?=some y->∃v,cl w B (o+i*T.size+c)=some v/\v.oneCell'=true/\PR w (Bj w) y v:=by
    intro i x c y U O;obtain⟨K,rfl⟩:=V U;rw[cG]at O;exact(hf i (by omega)).2 c y O
   refine .sl T.size _ B o cap (λi c=>(cl w B (o+i*T.size+c)).getD undef) hs (by rw[yk1,J];exact hlc) (λx hx'=>?_) (λi x c y U O=>?_) (λi x c y U O=>?_) (λi x c y U O=>?_)
   ·obtain⟨i,K⟩:=List.mem_iff_getElem?.1 hx';obtain⟨K,rfl⟩:=V K;rw[cG,bV]
   ·obtain⟨v,M,_⟩:=hc U O;rw[M];exact⟨rfl,(F0 M).2⟩
   ·obtain⟨v,M,ho,_⟩:=hc U O;rw[M];exact ho
   ·obtain⟨v,M,_,Y⟩:=hc U O;rw[M];exact Y
  rw[yk1,J]at this;exact this
theorem IA{rd:TypeId->Ty->Bool}{fuel:Nat}(ih: ∀(m:Nat) (t:TypeId) (T:Ty) (cs:List Value) (x:DataW H×List MemPlace),m<fuel->rd t T=true->vF enc P w m t cs=some x->Lw P t x.1->KI w T 0 cs)
  (t:TypeId) (T:Ty) (v:Value) (h:Di P rd t T=true) (hr: ∃m y,m≤fuel/\vF enc P w m t [v]=some y/\Lw P t y.1):Hp w T v:=by
 obtain⟨m,y,hm,K,Z⟩:=hr;unfold Di at h;split at h
 ·rename_i k ht;split at h
  ·rename_i k';obtain rfl:=vO.1 h;obtain⟨n,hn,_,N⟩:=DataW.trod_int ht K;obtain rfl:=(yb1 hn).1;exact⟨n,N,_,rfl,rfl,.lit _ rfl⟩
  ·cases h
 ·rename_i ht;split at h
  ·obtain⟨n,hn,_⟩:=DataW.trod_bool ht K;obtain rfl:=(yb1 hn).1;exact⟨n,trivial,_,rfl,rfl,.lit _ rfl⟩
  ·cases h
 ·rename_i ht;split at h
  ·obtain⟨n,hn,hx,J⟩:=DataW.trod_string ht K;obtain rfl:=(yb1 hn).1;subst hx;have:n.size≤reachBytes:=Z n.data.toList.length (by simp[DataW.weights]);exact⟨n,this,_,rfl,rfl,.lit _ rfl⟩
  ·cases h
 ·rename_i e ht;split at h
  ·rename_i ag Y;rw[yc,yc]at h;have J:=nb.1 h.1.2;have W:1≤P.bytesOf e:=Nat.le_of_ble_eq_true h.2;rcases P9 ht K Z with hn|⟨a,len,cap,m',hn,U,hcm,hfu,M,O⟩
   ·obtain rfl:=(yb1 hn).1;exact Lo ag Y _
   ·obtain rfl:=(yb1 hn).1;have V:cap≤reachBytes:=yq2 (Nat.le_mul_of_pos_right cap W) M;refine M7 U V λi hi=>?_;obtain⟨es,y',h1,h2,h3⟩:=O i hi;rw[J]at h1;exact⟨es,h1,ih m' e Y es y' (by omega) h.1.1 h2 h3⟩
  ·cases h
 ·cases h
theorem HE{J:TypeId->Ty->Bool}: ∀{l:List (Nat×TypeId)} {n:Nat} {T:Ty},zU J n l T=true->∀q∈l,∃N,J q.2 N=true
 | [],n,T,h,q,K=>by cases K
 | [p],n,T,h,q,K=>by
  have h:(Nat.beq p.1 n&&J p.2 T)=true:=h;rw[yc]at h;obtain rfl:=yh1.1 K;exact⟨T,h.2⟩
 |p::M::r,n,.cons a b,h,q,K=>by
  have h:(Nat.beq p.1 n&&J p.2 a&&zU J (n+1) (M::r) b)=true:=h;simp only[yc]at h;rcases yj1.1 K with rfl|K
  ·exact⟨a,h.1.2⟩
  ·exact HE h.2 q K
 |p::M::r,n,.int _,h,q,K|p::M::r,n,.bool,h,q,K|p::M::r,n,.str,h,q,K|p::M::r,n,.sl _ _,h,q,K=>by cases h
theorem Dv{rd:TypeId->Ty->Bool}{t:TypeId}{T:Ty}(h:Di P rd t T=true):yZ P t:=by
 unfold Di at h;split at h
 ·rename_i k ht;exact .inl ⟨k,ht⟩
 ·rename_i ht;exact .inr (.inl ht)
 ·rename_i ht;exact .inr (.inr (.inl ht))
 ·rename_i e ht;exact .inr (.inr (.inr ⟨e,ht⟩))
 ·cases h
theorem PL: ∀(fuel k:Nat) (t:TypeId) (T:Ty) (cs:List Value) (x:DataW H×List MemPlace),PK P k t T=true->vF enc P w fuel t cs=some x->Lw P t x.1->KI w T 0 cs:=by
 intro fuel
 induction fuel using Nat.strongRecOn with
 |ind fuel V=>
  intro k t T cs x J h Z;cases k with
  |zero=>cases J
  |succ k=>
   unfold PK at J;split at J
   ·rename_i l hl;refine HN (R:=λt v=> ∃m y,m≤fuel/\vF enc P w m t [v]=some y/\Lw P t y.1) (IA (rd:=PK P k) λm t T cs x hm O U h3=>V m hm k t T cs x O U h3) J λq N=>?_;obtain⟨T',M⟩:=HE J q N;obtain⟨m,v,y,hm,Y,W,K⟩:=CD 8 hl h Z q N (Dv M);exact⟨v,Y,m,y,hm,W,K⟩
   ·cases J
end Go.Ab
