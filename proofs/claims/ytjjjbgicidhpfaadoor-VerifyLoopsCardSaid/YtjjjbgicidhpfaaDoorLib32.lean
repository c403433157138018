import Derived.Test.YtjjjbgicidhpfaaDoorLib31
set_option linter.unusedVariables false
set_option linter.unusedSectionVars false
set_option linter.unusedSimpArgs false
namespace Go.Ab
variable [b3]
open Go.RowKit
variable {P:Program} {H:Type} {enc:TypeId×Value->H} {w:World}
theorem size_pos: ∀T:Ty,1≤T.size
 | .int _=>ya1 _
 | .bool=>ya1 _
 | .str=>ya1 _
 | .sl _ _=>ya1 _
 | .cons a b=>yc2 (size_pos a) (Nat.le_add_right _ _)
theorem Fl{w:World}{a:Addr}{v:Value}(h:w.cell? a=some v):a.spot=none/\a.block<w.heap.size:=by
 refine⟨World.cell?_spot h,?_⟩;unfold World.cell? at h;rcases yd2 a.block w.heap.size with I|I
 ·exact I
 ·rw[Array.getElem?_eq_none I]at h;cases h
def E7(w:World)(T:Ty)(v:Value):Prop:= ∃x:den T,OF T x/\∃p,aO T x= [p]/\v.oneCell'=true/\PR w (Ao w) p v
def HC(w:World)(T:Ty)(n:Nat)(cs:List Value):Prop:= ∃x:den T,OF T x/\OM w T x n cs
theorem D7{I:TypeId->Ty->Bool}{R:TypeId->Value->Prop}(J: ∀t T v,I t T=true->R t v->E7 w T v){cs:List Value}: ∀{l:List (Nat×TypeId)} {n:Nat} {T:Ty},
  sZ I n l T=true->(∀q∈l,∃v,cs[q.1]?=some v/\R q.2 v)->HC w T n cs
 | [],n,T,h,hr=>by cases h
 | [q],n,T,h,hr=>by
  have h:(Nat.beq q.1 n&&I q.2 T)=true:=h;rw[yb]at h;obtain⟨v,N,hR⟩:=hr q (yb2.2 rfl);obtain⟨x,W,p,U,V,M⟩:=J _ _ _ h.2 hR;refine⟨x,W,λj y K=>?_⟩;rw[U]at K;cases j with
  |zero=>
   simp at K;subst K;rw[nb.1 h.1]at N;exact⟨v,N,V,M⟩
  |succ j=>simp at K
 |q::O::r,n,.cons a b,h,hr=>by
  have h:(Nat.beq q.1 n&&I q.2 a&&sZ I (n+1) (O::r) b)=true:=h;simp only[yb]at h;obtain⟨v,N,hR⟩:=hr q (ym ..);obtain⟨x,W,p,U,V,M⟩:=J _ _ _ h.1.2 hR;obtain⟨z,Y,ht⟩:=D7 J h.2 λq Z=>hr q (yg _ Z);refine⟨(x,z),⟨W,Y⟩,λj y K=>?_⟩;have K:(aO a x++aO b z)[j]?=some y:=K;rw[U]at K;cases j with
  |zero=>
   simp at K;subst K;rw[nb.1 h.1.1]at N;exact⟨v,N,V,M⟩
  |succ j=>
   have:=ht j y (by simpa using K);rw[show n+(j+1)=n+1+j by omega];exact this
 |q::O::r,n,.int _,h,hr|q::O::r,n,.bool,h,hr|q::O::r,n,.str,h,hr|q::O::r,n,.sl _ _,h,hr=>by cases h
theorem Jl(ag:Bool)(T:Ty)(a:Option Addr):E7 w (.sl ag T) (.slice a 0 0):=by
 refine⟨([]:List (den T)),⟨Nat.zero_le _,λx J=>by cases J⟩,_,rfl,rfl,?_⟩;cases I:aY ag T with
 |true=>
  obtain⟨rfl,k,rfl⟩:=aN.1 I;exact .intsNil k a
 |false=>
  show PR w (Ao w) (c8 ag T []) (.slice a 0 0);rw[bU I];exact .slNil _ a
theorem nU{α:Type}{f:Nat->α}{n i:Nat}{x:α}(J:((List.range n).map f)[i]?=some x):i<n/\x=f i:=by
 rw[yc1]at J;obtain⟨i',I,rfl⟩:=yc.1 J;rcases yd2 i n with h|h
 ·rw[List.getElem?_range h]at I;obtain rfl:=ya I;exact⟨h,rfl⟩
 ·rw[yb1 (by simpa using h)]at I;cases I
theorem J9{ag:Bool}{T:Ty}{a:Addr}{len cap:Nat}(Y:len≤cap)(hcm:cap≤reachBytes)
  (h: ∀i,i<cap->∃W,w.cells? 0 (a.add (i*T.size)) T.size=some W/\HC w T 0 W):E7 w (.sl ag T) (.slice (some a) len cap):=by
 rcases Nat.eq_zero_or_pos cap with rfl|hpos
 ·obtain rfl:len=0:=by omega
  exact Jl ag T _
 have hs:=size_pos T;obtain⟨B,o,spot⟩:=a;obtain rfl:spot=none:=by
  obtain⟨W,V,_⟩:=h 0 hpos;obtain⟨_,hlen,M⟩:=World.cells?_some V;have h0:=M 0 (by omega);rw[yf (by omega)]at h0;have:=(Fl h0).1;simpa[Addr.add]using this
 have N: ∀i,i<cap->∃x:den T,OF T x/\∀(j:Nat) (y:PV),(aO T x)[j]?=some y->∃v,cl w B (o+i*T.size+j)=some v/\v.oneCell'=true/\PR w (Ao w) y v:=by
  intro i J;obtain⟨W,V,x,hf,ht⟩:=h i J;obtain⟨_,hlen,M⟩:=World.cells?_some V;refine⟨x,hf,λj y hy=>?_⟩;obtain⟨v,K,ho,Z⟩:=ht j y hy;rw[yy]at K;have hj:j<T.size:=by
   rcases yd2 j W.length with h|h
   ·omega
   ·rw[yb1 h]at K;cases K
  refine⟨v,?_,ho,Z⟩;have:=M j hj;rw[K,cO,cO]at this;exact this
 have O: ∃f:Nat->den T,∀i,i<cap->OF T (f i)/\∀(j:Nat) (y:PV),(aO T (f i))[j]?=some y->∃v,cl w B (o+i*T.size+j)=some v/\v.oneCell'=true/\PR w (Ao w) y v:=by
  classical
  refine⟨λi=>if J:i<cap then Classical.choose (N i J)else Sh.dflt.dT T,λi J=>?_⟩;simp only[J,dif_pos];exact Classical.choose_spec (N i J)
 obtain⟨f,hf⟩:=O;have I:((List.range len).map f).length=len:=by rw[ye1,List.length_range]
 refine⟨(List.range len).map f,⟨(show((List.range len).map f).length≤reachBytes by omega),λx U=>?_⟩,_,rfl,rfl,?_⟩
 ·obtain⟨i,J⟩:=List.mem_iff_getElem?.1 U;obtain⟨J,rfl⟩:=nU J;exact(hf i (by omega)).1
 cases J:aY ag T with
 |true=>
  obtain⟨rfl,k,rfl⟩:=aN.1 J;have: ∀n,((List.range len).map f).length=n->PR w (Ao w) (.ints k ((List.range len).map f)) (.slice (some ⟨B,o,none⟩) n cap):=by
   intro n hn;subst hn;refine .ints k _ B o cap (yc2 (Nat.le_of_eq I) Y) λi x U=>?_;obtain⟨J,rfl⟩:=nU U;obtain⟨v,K,_,Z⟩:=(hf i (by omega)).2 0 (.lit (.int k (f i))) rfl;have K:cl w B (o+i)=some v:=by simpa[Ty.size]using K
   cases Z;exact⟨K,(Fl K).2⟩
  exact this len I
 |false=>
  show PR w (Ao w) (c8 ag T ((List.range len).map f)) _;rw[bU J];have:PR w (Ao w) (.sl T.size (((List.range len).map f).map (cF ag T))) (.slice (some ⟨B,o,none⟩) (((List.range len).map f).map (cF ag T)).length cap):=by
   have U: ∀{i:Nat} {x:PV},(((List.range len).map f).map (cF ag T))[i]?=some x->i<len/\x=cF ag T (f i):=by
    intro i x U;rw[yc1]at U;obtain⟨z,hz,rfl⟩:=yc.1 U;obtain⟨h,rfl⟩:=nU hz;exact⟨h,rfl⟩
   have hc: ∀{i:Nat} {x:PV} {c:Nat} {y:PV},(((List.range len).map f).map (cF ag T))[i]?=some x->x.cells[c]?=some y->∃v,cl w B (o+i*T.size+c)=some v/\v.oneCell'=true/\PR w (Ao w) y v:=by
    intro i x c y N O;obtain⟨J,rfl⟩:=U N;rw[b4]at O;exact(hf i (by omega)).2 c y O
   refine .sl T.size _ B o cap (λi c=>(cl w B (o+i*T.size+c)).getD undef) hs (by rw[ye1,I];exact Y) (λx hx'=>?_) (λi x c y N O=>?_) (λi x c y N O=>?_) (λi x c y N O=>?_)
   ·obtain⟨i,J⟩:=List.mem_iff_getElem?.1 hx';obtain⟨J,rfl⟩:=U J;rw[b4,bN]
   ·obtain⟨v,K,_⟩:=hc N O;rw[K];exact⟨rfl,(Fl K).2⟩
   ·obtain⟨v,K,ho,_⟩:=hc N O;rw[K];exact ho
   ·obtain⟨v,K,_,Z⟩:=hc N O;rw[K];exact Z
  rw[ye1,I]at this;exact this
theorem FV{rd:TypeId->Ty->Bool}{fuel:Nat}(ih: ∀(m:Nat) (t:TypeId) (T:Ty) (cs:List Value) (x:DataW H×List MemPlace),m<fuel->rd t T=true->qF enc P w m t cs=some x->Lw P t x.1->HC w T 0 cs)
  (t:TypeId) (T:Ty) (v:Value) (h:A2 P rd t T=true) (hr: ∃m y,m≤fuel/\qF enc P w m t [v]=some y/\Lw P t y.1):E7 w T v:=by
 obtain⟨m,y,hm,J,hw⟩:=hr;unfold A2 at h;split at h
 ·rename_i k ht;split at h
  ·rename_i k';obtain rfl:=qK.1 h;obtain⟨n,hn,_,V⟩:=DataW.trod_int ht J;obtain rfl:=(yx hn).1;exact⟨n,V,_,rfl,rfl,.lit _ rfl⟩
  ·cases h
 ·rename_i ht;split at h
  ·obtain⟨n,hn,_⟩:=DataW.trod_bool ht J;obtain rfl:=(yx hn).1;exact⟨n,trivial,_,rfl,rfl,.lit _ rfl⟩
  ·cases h
 ·rename_i ht;split at h
  ·obtain⟨n,hn,hx,I⟩:=DataW.trod_string ht J;obtain rfl:=(yx hn).1;subst hx;have:n.size≤reachBytes:=hw n.data.toList.length (by simp[DataW.weights]);exact⟨n,this,_,rfl,rfl,.lit _ rfl⟩
  ·cases h
 ·rename_i e ht;split at h
  ·rename_i ag W;rw[yb,yb]at h;have I:=nb.1 h.1.2;have K:1≤P.bytesOf e:=Nat.le_of_ble_eq_true h.2;rcases LJ ht J hw with hn|⟨a,len,cap,m',hn,M,hcm,hfu,O,N⟩
   ·obtain rfl:=(yx hn).1;exact Jl ag W _
   ·obtain rfl:=(yx hn).1;have U:cap≤reachBytes:=yc2 (Nat.le_mul_of_pos_right cap K) O;refine J9 M U λi hi=>?_;obtain⟨Z,y',Y,h2,h3⟩:=N i hi;rw[I]at Y;exact⟨Z,Y,ih m' e W Z y' (by omega) h.1.1 h2 h3⟩
  ·cases h
 ·cases h
theorem Dv{I:TypeId->Ty->Bool}: ∀{l:List (Nat×TypeId)} {n:Nat} {T:Ty},sZ I n l T=true->∀q∈l,∃M,I q.2 M=true
 | [],n,T,h,q,J=>by cases J
 | [p],n,T,h,q,J=>by
  have h:(Nat.beq p.1 n&&I p.2 T)=true:=h;rw[yb]at h;obtain rfl:=yb2.1 J;exact⟨T,h.2⟩
 |p::K::r,n,.cons a b,h,q,J=>by
  have h:(Nat.beq p.1 n&&I p.2 a&&sZ I (n+1) (K::r) b)=true:=h;simp only[yb]at h;rcases yl1.1 J with rfl|J
  ·exact⟨a,h.1.2⟩
  ·exact Dv h.2 q J
 |p::K::r,n,.int _,h,q,J|p::K::r,n,.bool,h,q,J|p::K::r,n,.str,h,q,J|p::K::r,n,.sl _ _,h,q,J=>by cases h
theorem Bu{rd:TypeId->Ty->Bool}{t:TypeId}{T:Ty}(h:A2 P rd t T=true):sY P t:=by
 unfold A2 at h;split at h
 ·rename_i k ht;exact .inl ⟨k,ht⟩
 ·rename_i ht;exact .inr (.inl ht)
 ·rename_i ht;exact .inr (.inr (.inl ht))
 ·rename_i e ht;exact .inr (.inr (.inr ⟨e,ht⟩))
 ·cases h
theorem L8: ∀(fuel k:Nat) (t:TypeId) (T:Ty) (cs:List Value) (x:DataW H×List MemPlace),LO P k t T=true->qF enc P w fuel t cs=some x->Lw P t x.1->HC w T 0 cs:=by
 intro fuel
 induction fuel using Nat.strongRecOn with
 |ind fuel N=>
  intro k t T cs x I h Z;cases k with
  |zero=>cases I
  |succ k=>
   unfold LO at I;split at I
   ·rename_i l Y;refine D7 (R:=λt v=> ∃m y,m≤fuel/\qF enc P w m t [v]=some y/\Lw P t y.1) (FV (rd:=LO P k) λm t T cs x hm O V U=>N m hm k t T cs x O V U) I λq M=>?_;obtain⟨T',K⟩:=Dv I q M;obtain⟨m,v,y,hm,hv,W,J⟩:=Bm 8 Y h Z q M (Bu K);exact⟨v,hv,m,y,hm,W,J⟩
   ·cases I
end Go.Ab
