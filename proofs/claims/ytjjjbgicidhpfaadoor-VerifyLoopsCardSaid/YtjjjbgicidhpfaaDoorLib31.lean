import Derived.Test.YtjjjbgicidhpfaaDoorLib30
import Derived.ChangeArms
import Derived.ChangeShapes
import Derived.SizedLaws
set_option linter.unusedVariables false
set_option linter.unusedSectionVars false
set_option linter.unusedSimpArgs false
namespace Go.Ab
variable [b3]
open Go.RowKit
variable {P:Program} {H:Type} {enc:TypeId×Value->H} {w:World}
noncomputable section
def OF:(T:Ty)->den T->Prop
 | .int k,x=>(Lit.int k x).wf=true
 | .bool,_=>True
 | .str,s=>ByteArray.size s≤reachBytes
 | .sl _ T,xs=>List.length xs≤reachBytes/\∀x∈(show List (den T)from xs),OF T x
 | .cons a b,p=>OF a (Prod.fst p)/\OF b (Prod.snd p)
def Ao(w:World)(B _o:Nat):Prop:=B<w.heap.size
def OM(w:World)(T:Ty)(x:den T)(n:Nat)(cs:List Value):Prop:=
 ∀(j:Nat) (y:PV),(aO T x)[j]?=some y->∃v,cs[n+j]?=some v/\v.oneCell'=true/\PR w (Ao w) y v
def E4(f:TypeId->Option (List (Nat×TypeId))):List Field->Option (List (Nat×TypeId))
 | []=>some []
 |x::r=>(f x.type).bind λa=>(E4 f r).map λb=>a.map (λq=>(x.offset+q.1,q.2))++b
def IU(P:Program):Nat->TypeId->Option (List (Nat×TypeId))
 |0,_=>none
 |k+1,t=>match P.underlying t with
  |some (.struct fs)=>E4 (IU P k) fs.toList
  |some (.array _ _)=>none
  |_=>some [(0,t)]
def A2(P:Program)(rd:TypeId->Ty->Bool)(t:TypeId)(T:Ty):Bool:=
 match P.underlying t with
 |some (.int k)=>(match T with| .int k'=>fY k k'|_=>false)
 |some .bool=>(match T with| .bool=>true|_=>false)
 |some .string=>(match T with| .str=>true|_=>false)
 |some (.slice e)=>(match T with| .sl _ T'=>rd e T'&&Nat.beq (P.cellsOf e) T'.size&&Nat.ble 1 (P.bytesOf e)|_=>false)
 |_=>false
def sZ(leaf:TypeId->Ty->Bool):Nat->List (Nat×TypeId)->Ty->Bool
 |_,[],_=>false
 |n,[q],T=>Nat.beq q.1 n&&leaf q.2 T
 |n,q::r,T=>match T with
  | .cons a b=>Nat.beq q.1 n&&leaf q.2 a&&sZ leaf (n+1) r b
  |_=>false
def LO(P:Program):Nat->TypeId->Ty->Bool
 |0,_,_=>false
 |k+1,t,T=>match IU P 8 t with
  |some l=>sZ (A2 P (LO P k)) 0 l T
  |none=>false
abbrev qF(enc:TypeId×Value->H)(P:Program)(w:World)(m:Nat)(t:TypeId)(cs:List Value):Option (DataW H×List MemPlace):=DataW.trod enc P w 0 (λ_=>true) true m t cs
def Lw(P:Program)(t:TypeId)(d:DataW H):Prop:= ∀n∈DataW.weights P t d,n≤reachBytes
theorem lS{e:TypeId}: ∀{I:List (DataW H)} {i:Nat} {d:DataW H},I[i]?=some d->∀n∈DataW.weights P e d,n∈DataW.weightsAll P e I
 |d0::I,0,d,h,n,hn=>by
  simp at h;subst h;simp only[DataW.weightsAll,yn1];exact .inl hn
 |d0::I,i+1,d,h,n,hn=>by
  simp only[DataW.weightsAll,yn1];exact .inr (lS (by simpa using h) n hn)
 | [],_,_,h,_,_=>by simp at h
section
variable {m:Nat} {t:TypeId} {cs:List Value} {x:DataW H×List MemPlace}
theorem LJ{e:TypeId}(ht:P.underlying t=some (.slice e))(h:qF enc P w m t cs=some x)(hw:Lw P t x.1):cs= [.slice none 0 0]\/∃a len cap m',cs= [.slice (some a) len cap]/\len≤cap/\cap≤maxLen/\m=m'+1/\cap*P.bytesOf e≤reachBytes/\
  ∀i,i<cap->∃N y,w.cells? 0 (a.add (i*P.cellsOf e)) (P.cellsOf e)=some N/\qF enc P w m' e N=some y/\Lw P e y.1:=by
 rcases DataW.trod_slice ht h with ⟨J,_⟩|⟨a,len,cap,I,rest,n,hf,U,hx,_,Y,O,Z,he,hr,_⟩
 ·exact .inl J
 ·right;obtain⟨h0,hr⟩:=hr rfl;subst hx;have M: ∀k∈(((I.map (·.1)).length+(rest.map (·.1)).length)*P.bytesOf e::(DataW.weightsAll P e (I.map (·.1))++DataW.weightsAll P e (rest.map (·.1)))),k≤reachBytes:=by
   have K:=hw;unfold Lw at K;simp only[DataW.weights,ht]at K;exact K
  refine⟨a,len,cap,n,U,Y,O,hf,?_,λi hi=>?_⟩
  ·have:=M _ (ym ..);rw[ye1,ye1,Z,h0,show len+(cap-len)=cap by omega]at this;exact this
  by_cases hl:i<len
  ·have J:=he i hl;have:i<I.length:=by omega
   rw[yf this]at J;obtain⟨N,W,V⟩:=yp1.1 J;refine⟨N,_,W,V,λk hk=>M k (yg _ (yn1.2 (.inl (lS (i:=i) ?_ k hk))))⟩;rw[yc1,yf this];rfl
  ·have J:=hr (i-len) (by omega);have:i-len<rest.length:=by omega
   rw[yf this,show len+(i-len)=i by omega]at J;obtain⟨N,W,V⟩:=yp1.1 J;refine⟨N,_,W,V,λk hk=>M k (yg _ (yn1.2 (.inr (lS (i:=i-len) ?_ k hk))))⟩;rw[yc1,yf this];rfl
end
def sY(P:Program)(t:TypeId):Prop:=(∃k,P.underlying t=some (.int k))\/P.underlying t=some .bool\/P.underlying t=some .string\/∃e,P.underlying t=some (.slice e)
theorem Ng{m:Nat}{t:TypeId}{cs:List Value}{x:DataW H×List MemPlace}(I:sY P t)(h:qF enc P w m t cs=some x): ∃v,cs= [v]:=by
 rcases I with ⟨k,ht⟩|ht|ht|⟨e,ht⟩
 ·obtain⟨n,h,_⟩:=DataW.trod_int ht h;exact⟨_,h⟩
 ·obtain⟨n,h,_⟩:=DataW.trod_bool ht h;exact⟨_,h⟩
 ·obtain⟨n,h,_⟩:=DataW.trod_string ht h;exact⟨_,h⟩
 ·rcases DataW.trod_slice ht h with ⟨h,_⟩|⟨_,_,_,_,_,_,_,h,_⟩<;>exact⟨_,h⟩
theorem C8{f:TypeId->Option (List (Nat×TypeId))}: ∀{fs:List Field} {l:List (Nat×TypeId)},E4 f fs=some l->∀q∈l,∃(i:Nat) (x:Field) (a:List (Nat×TypeId)) (J:Nat×TypeId),fs[i]?=some x/\f x.type=some a/\J∈a/\q=(x.offset+J.1,J.2)
 | [],l,h,q,I=>by simp[E4]at h;subst h;cases I
 |x::r,l,h,q,I=>by
  simp only[E4,yp1,yc]at h;obtain⟨a,W,b,N,rfl⟩:=h;rcases yn1.1 I with I|I
  ·obtain⟨J,K,rfl⟩:=yq2.1 I;exact⟨0,x,a,J,rfl,W,K,rfl⟩
  ·obtain⟨i,y,Y,J,M,V,U,O⟩:=C8 N q I;exact⟨i+1,y,Y,J,by simpa using M,V,U,O⟩
theorem Bm: ∀(k:Nat) {fuel:Nat} {t:TypeId} {cs:List Value} {x:DataW H×List MemPlace} {l:List (Nat×TypeId)},IU P k t=some l->qF enc P w fuel t cs=some x->Lw P t x.1->
  ∀q∈l,sY P q.2->∃m v y,m≤fuel/\cs[q.1]?=some v/\qF enc P w m q.2 [v]=some y/\Lw P q.2 y.1
 |0,fuel,t,cs,x,l,K,h,Z,q,Y,I=>by cases K
 |k+1,fuel,t,cs,x,l,K,h,Z,q,Y,I=>by
  unfold IU at K;split at K
  ·rename_i fs ht;obtain⟨xs,n,hfu,hx,hlen,hxl,V⟩:=DataW.trod_struct ht h;obtain⟨i,f,a,q',O,h2,h3,rfl⟩:=C8 K q Y;have hi:i<fs.size:=by
    rcases yd2 i fs.size with h|h
    ·exact h
    ·rw[yb1 (by simpa using h)]at O;cases O
   have h4:=V i f (by rw[<-yh1];exact O);have M:i<xs.length:=by omega
   rw[yf M]at h4;have W:Lw P f.type xs[i].1:=by
    intro k hk;subst hx;have J:=Z;unfold Lw at J;simp only[DataW.weights,ht]at J;refine J k (DataW.weights_mem_each (j:=i) (t:=f.type) (d:=xs[i].1) ?_ ?_ k hk)
    ·rw[yc1,O];rfl
    ·rw[yc1,yf M];rfl
   obtain⟨m,v,y,hm,N,hy,U⟩:=Bm k h2 h4 W q' h3 I;refine⟨m,v,y,by omega,?_,hy,U⟩;rw[yi1]at N;split at N
   ·rw[yz]at N;exact N
   ·cases N
  ·cases K
  ·have:=ya K;subst this;obtain rfl:=yb2.1 Y;obtain⟨v,rfl⟩:=Ng I h;exact⟨fuel,v,x,ya1 _,rfl,h,Z⟩
end
end Go.Ab
