import Derived.Test.YtjjjbgicidhpfaaDoorLib31
import Derived.ChangeArms
import Derived.ChangeShapes
import Derived.SizedLaws
set_option linter.unusedVariables false
set_option linter.unusedSectionVars false
set_option linter.unusedSimpArgs false
namespace Go.Ab
variable [cS]
open Go.RowKit
variable {P:Program} {H:Type} {enc:TypeId×Value->H} {w:World}
noncomputable section
def JX:(T:Ty)->den T->Prop
 | .int k,x=>(Lit.int k x).wf=true
 | .bool,_=>True
 | .str,s=>ByteArray.size s≤reachBytes
 | .sl _ T,xs=>List.length xs≤reachBytes/\∀x∈(show List (den T)from xs),JX T x
 | .cons a b,p=>JX a (Prod.fst p)/\JX b (Prod.snd p)
def D4(w:World)(B _o:Nat):Prop:=B<w.heap.size
def V8(w:World)(T:Ty)(x:den T)(n:Nat)(cs:List Value):Prop:=
 ∀(j:Nat) (y:PV),(aV T x)[j]?=some y->∃v,cs[n+j]?=some v/\v.oneCell'=true/\PR w (D4 w) y v
def Jp(f:TypeId->Option (List (Nat×TypeId))):List Field->Option (List (Nat×TypeId))
 | []=>some []
 |x::r=>(f x.type).bind λa=>(Jp f r).map λb=>a.map (λq=>(x.offset+q.1,q.2))++b
def NC(P:Program):Nat->TypeId->Option (List (Nat×TypeId))
 |0,_=>none
 |k+1,t=>match P.underlying t with
  |some (.struct fs)=>Jp (NC P k) fs.toList
  |some (.array _ _)=>none
  |_=>some [(0,t)]
def Fd(P:Program)(rd:TypeId->Ty->Bool)(t:TypeId)(T:Ty):Bool:=
 match P.underlying t with
 |some (.int k)=>(match T with| .int k'=>jS k k'|_=>false)
 |some .bool=>(match T with| .bool=>true|_=>false)
 |some .string=>(match T with| .str=>true|_=>false)
 |some (.slice e)=>(match T with| .sl _ T'=>rd e T'&&Nat.beq (P.cellsOf e) T'.size&&Nat.ble 1 (P.bytesOf e)|_=>false)
 |_=>false
def Bc(leaf:TypeId->Ty->Bool):Nat->List (Nat×TypeId)->Ty->Bool
 |_,[],_=>false
 |n,[q],T=>Nat.beq q.1 n&&leaf q.2 T
 |n,q::r,T=>match T with
  | .cons a b=>Nat.beq q.1 n&&leaf q.2 a&&Bc leaf (n+1) r b
  |_=>false
def RJ(P:Program):Nat->TypeId->Ty->Bool
 |0,_,_=>false
 |k+1,t,T=>match NC P 8 t with
  |some l=>Bc (Fd P (RJ P k)) 0 l T
  |none=>false
abbrev yK(enc:TypeId×Value->H)(P:Program)(w:World)(m:Nat)(t:TypeId)(cs:List Value):Option (DataW H×List MemPlace):=DataW.trod enc P w 0 (λ_=>true) true m t cs
def Lw(P:Program)(t:TypeId)(d:DataW H):Prop:= ∀n∈DataW.weights P t d,n≤reachBytes
theorem p0{e:TypeId}: ∀{J:List (DataW H)} {i:Nat} {d:DataW H},J[i]?=some d->∀n∈DataW.weights P e d,n∈DataW.weightsAll P e J
 |d0::J,0,d,h,n,hn=>by
  simp at h;subst h;simp only[DataW.weightsAll,yr1];exact .inl hn
 |d0::J,i+1,d,h,n,hn=>by
  simp only[DataW.weightsAll,yr1];exact .inr (p0 (by simpa using h) n hn)
 | [],_,_,h,_,_=>by simp at h
section
variable {m:Nat} {t:TypeId} {cs:List Value} {x:DataW H×List MemPlace}
theorem Su{e:TypeId}(ht:P.underlying t=some (.slice e))(h:yK enc P w m t cs=some x)(hw:Lw P t x.1):cs= [.slice none 0 0]\/∃a len cap m',cs= [.slice (some a) len cap]/\len≤cap/\cap≤maxLen/\m=m'+1/\cap*P.bytesOf e≤reachBytes/\
  ∀i,i<cap->∃O y,w.cells? 0 (a.add (i*P.cellsOf e)) (P.cellsOf e)=some O/\yK enc P w m' e O=some y/\Lw P e y.1:=by
 rcases DataW.trod_slice ht h with ⟨M,_⟩|⟨a,len,cap,J,rest,n,hf,W,hx,_,Z,hcm,Y,he,hr,_⟩
 ·exact .inl M
 ·right;obtain⟨h0,hr⟩:=hr rfl;subst hx
  have K: ∀k∈(((J.map (·.1)).length+(rest.map (·.1)).length)*P.bytesOf e::(DataW.weightsAll P e (J.map (·.1))++DataW.weightsAll P e (rest.map (·.1)))),k≤reachBytes:=by
   have N:=hw;unfold Lw at N;simp only[DataW.weights,ht]at N;exact N
  refine⟨a,len,cap,n,W,Z,hcm,hf,?_,λi hi=>?_⟩
  ·have:=K _ (yn ..);rw[ym1,ym1,Y,h0,show len+(cap-len)=cap by omega]at this;exact this
  by_cases hl:i<len
  ·have M:=he i hl;have:i<J.length:=by omega
   rw[ye this]at M;obtain⟨O,V,U⟩:=yp1.1 M;refine⟨O,_,V,U,λk hk=>K k (yk _ (yr1.2 (.inl (p0 (i:=i) ?_ k hk))))⟩;rw[yh1,ye this];rfl
  ·have M:=hr (i-len) (by omega);have:i-len<rest.length:=by omega
   rw[ye this,show len+(i-len)=i by omega]at M;obtain⟨O,V,U⟩:=yp1.1 M;refine⟨O,_,V,U,λk hk=>K k (yk _ (yr1.2 (.inr (p0 (i:=i-len) ?_ k hk))))⟩;rw[yh1,ye this];rfl
end
def AI(P:Program)(t:TypeId):Prop:=(∃k,P.underlying t=some (.int k))\/P.underlying t=some .bool\/P.underlying t=some .string\/∃e,P.underlying t=some (.slice e)
theorem Ta{m:Nat}{t:TypeId}{cs:List Value}{x:DataW H×List MemPlace}(J:AI P t)(h:yK enc P w m t cs=some x): ∃v,cs= [v]:=by
 rcases J with ⟨k,ht⟩|ht|ht|⟨e,ht⟩
 ·obtain⟨n,h,_⟩:=DataW.trod_int ht h;exact⟨_,h⟩
 ·obtain⟨n,h,_⟩:=DataW.trod_bool ht h;exact⟨_,h⟩
 ·obtain⟨n,h,_⟩:=DataW.trod_string ht h;exact⟨_,h⟩
 ·rcases DataW.trod_slice ht h with ⟨h,_⟩|⟨_,_,_,_,_,_,_,h,_⟩<;>exact⟨_,h⟩
theorem Jx{f:TypeId->Option (List (Nat×TypeId))}: ∀{fs:List Field} {l:List (Nat×TypeId)},Jp f fs=some l->∀q∈l,∃(i:Nat) (x:Field) (a:List (Nat×TypeId)) (K:Nat×TypeId),fs[i]?=some x/\f x.type=some a/\K∈a/\q=(x.offset+K.1,K.2)
 | [],l,h,q,J=>by simp[Jp]at h;subst h;cases J
 |x::r,l,h,q,J=>by
  simp only[Jp,yp1,yf]at h;obtain⟨a,Z,b,Y,rfl⟩:=h;rcases yr1.1 J with J|J
  ·obtain⟨K,M,rfl⟩:=yl3.1 J;exact⟨0,x,a,K,rfl,Z,M,rfl⟩
  ·obtain⟨i,y,V,K,W,O,N,U⟩:=Jx Y q J;exact⟨i+1,y,V,K,by simpa using W,O,N,U⟩
theorem FS: ∀(k:Nat) {fuel:Nat} {t:TypeId} {cs:List Value} {x:DataW H×List MemPlace} {l:List (Nat×TypeId)},NC P k t=some l->yK enc P w fuel t cs=some x->Lw P t x.1->
  ∀q∈l,AI P q.2->∃m v y,m≤fuel/\cs[q.1]?=some v/\yK enc P w m q.2 [v]=some y/\Lw P q.2 y.1
 |0,fuel,t,cs,x,l,M,h,Z,q,hq,J=>by cases M
 |k+1,fuel,t,cs,x,l,M,h,Z,q,hq,J=>by
  unfold NC at M;split at M
  ·rename_i fs ht;obtain⟨xs,n,hfu,hx,hlen,hxl,Y⟩:=DataW.trod_struct ht h;obtain⟨i,f,a,q',U,h2,h3,rfl⟩:=Jx M q hq;have hi:i<fs.size:=by
    rcases yq2 i fs.size with h|h
    ·exact h
    ·rw[yc1 (by simpa using h)]at U;cases U
   have h4:=Y i f (by rw[<-yx1];exact U);have O:i<xs.length:=by omega
   rw[ye O]at h4;have V:Lw P f.type xs[i].1:=by
    intro k hk;subst hx;have K:=Z;unfold Lw at K;simp only[DataW.weights,ht]at K;refine K k (DataW.weights_mem_each (j:=i) (t:=f.type) (d:=xs[i].1) ?_ ?_ k hk)
    ·rw[yh1,U];rfl
    ·rw[yh1,ye O];rfl
   obtain⟨m,v,y,hm,N,hy,W⟩:=FS k h2 h4 V q' h3 J;refine⟨m,v,y,by omega,?_,hy,W⟩;rw[yy1]at N;split at N
   ·rw[yg1]at N;exact N
   ·cases N
  ·cases M
  ·have:=yb M;subst this;obtain rfl:=yi1.1 hq;obtain⟨v,rfl⟩:=Ta J h;exact⟨fuel,v,x,yb1 _,rfl,h,Z⟩
end
end Go.Ab
