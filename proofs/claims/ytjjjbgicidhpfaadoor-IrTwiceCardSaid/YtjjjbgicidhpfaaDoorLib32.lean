import Derived.Test.YtjjjbgicidhpfaaDoorLib31
import Derived.ChangeArms
import Derived.ChangeShapes
import Derived.SizedLaws
set_option linter.unusedVariables false
set_option linter.unusedSectionVars false
set_option linter.unusedSimpArgs false
namespace Go.Ab
variable [cF]
open Go.RowKit
variable {P:Program} {H:Type} {enc:TypeId×Value->H} {w:World}
noncomputable section
def H7:(T:Ty)->den T->Prop
 | .int k,x=>(Lit.int k x).wf=true
 | .bool,_=>True
 | .str,s=>ByteArray.size s≤reachBytes
 | .sl _ T,xs=>List.length xs≤reachBytes/\∀x∈(show List (den T)from xs),H7 T x
 | .cons a b,p=>H7 a (Prod.fst p)/\H7 b (Prod.snd p)
def Bj(w:World)(B _o:Nat):Prop:=B<w.heap.size
def T8(w:World)(T:Ty)(x:den T)(n:Nat)(cs:List Value):Prop:=
 ∀(j:Nat) (y:PV),(aQ T x)[j]?=some y->∃v,cs[n+j]?=some v/\v.oneCell'=true/\PR w (Bj w) y v
def HO(f:TypeId->Option (List (Nat×TypeId))):List Field->Option (List (Nat×TypeId))
 | []=>some []
 |x::r=>(f x.type).bind λa=>(HO f r).map λb=>a.map (λq=>(x.offset+q.1,q.2))++b
def Mt(P:Program):Nat->TypeId->Option (List (Nat×TypeId))
 |0,_=>none
 |k+1,t=>match P.underlying t with
  |some (.struct fs)=>HO (Mt P k) fs.toList
  |some (.array _ _)=>none
  |_=>some [(0,t)]
def Di(P:Program)(rd:TypeId->Ty->Bool)(t:TypeId)(T:Ty):Bool:=
 match P.underlying t with
 |some (.int k)=>(match T with| .int k'=>iK k k'|_=>false)
 |some .bool=>(match T with| .bool=>true|_=>false)
 |some .string=>(match T with| .str=>true|_=>false)
 |some (.slice e)=>(match T with| .sl _ T'=>rd e T'&&Nat.beq (P.cellsOf e) T'.size&&Nat.ble 1 (P.bytesOf e)|_=>false)
 |_=>false
def zU(leaf:TypeId->Ty->Bool):Nat->List (Nat×TypeId)->Ty->Bool
 |_,[],_=>false
 |n,[q],T=>Nat.beq q.1 n&&leaf q.2 T
 |n,q::r,T=>match T with
  | .cons a b=>Nat.beq q.1 n&&leaf q.2 a&&zU leaf (n+1) r b
  |_=>false
def PK(P:Program):Nat->TypeId->Ty->Bool
 |0,_,_=>false
 |k+1,t,T=>match Mt P 8 t with
  |some l=>zU (Di P (PK P k)) 0 l T
  |none=>false
abbrev vF(enc:TypeId×Value->H)(P:Program)(w:World)(m:Nat)(t:TypeId)(cs:List Value):Option (DataW H×List MemPlace):=DataW.trod enc P w 0 (λ_=>true) true m t cs
def Lw(P:Program)(t:TypeId)(d:DataW H):Prop:= ∀n∈DataW.weights P t d,n≤reachBytes
theorem oJ{e:TypeId}: ∀{J:List (DataW H)} {i:Nat} {d:DataW H},J[i]?=some d->∀n∈DataW.weights P e d,n∈DataW.weightsAll P e J
 |d0::J,0,d,h,n,hn=>by
  simp at h;subst h;simp only[DataW.weightsAll,yn1];exact .inl hn
 |d0::J,i+1,d,h,n,hn=>by
  simp only[DataW.weightsAll,yn1];exact .inr (oJ (by simpa using h) n hn)
 | [],_,_,h,_,_=>by simp at h
section
variable {m:Nat} {t:TypeId} {cs:List Value} {x:DataW H×List MemPlace}
theorem P9{e:TypeId}(ht:P.underlying t=some (.slice e))(h:vF enc P w m t cs=some x)(hw:Lw P t x.1):cs= [.slice none 0 0]\/∃a len cap m',cs= [.slice (some a) len cap]/\len≤cap/\cap≤maxLen/\m=m'+1/\cap*P.bytesOf e≤reachBytes/\
  ∀i,i<cap->∃O y,w.cells? 0 (a.add (i*P.cellsOf e)) (P.cellsOf e)=some O/\vF enc P w m' e O=some y/\Lw P e y.1:=by
 rcases DataW.trod_slice ht h with ⟨N,_⟩|⟨a,len,cap,J,rest,n,hf,hcs,hx,_,Z,Y,W,he,hr,_⟩
 ·exact .inl N
 ·right;obtain⟨h0,hr⟩:=hr rfl;subst hx
  have K: ∀k∈(((J.map (·.1)).length+(rest.map (·.1)).length)*P.bytesOf e::(DataW.weightsAll P e (J.map (·.1))++DataW.weightsAll P e (rest.map (·.1)))),k≤reachBytes:=by
   have M:=hw;unfold Lw at M;simp only[DataW.weights,ht]at M;exact M
  refine⟨a,len,cap,n,hcs,Z,Y,hf,?_,λi hi=>?_⟩
  ·have:=K _ (yn ..);rw[yk1,yk1,W,h0,show len+(cap-len)=cap by omega]at this;exact this
  by_cases hl:i<len
  ·have N:=he i hl;have:i<J.length:=by omega
   rw[yf this]at N;obtain⟨O,U,h3⟩:=yy1.1 N;refine⟨O,_,U,h3,λk V=>K k (yj _ (yn1.2 (.inl (oJ (i:=i) ?_ k V))))⟩;rw[yg1,yf this];rfl
  ·have N:=hr (i-len) (by omega);have:i-len<rest.length:=by omega
   rw[yf this,show len+(i-len)=i by omega]at N;obtain⟨O,U,h3⟩:=yy1.1 N;refine⟨O,_,U,h3,λk V=>K k (yj _ (yn1.2 (.inr (oJ (i:=i-len) ?_ k V))))⟩;rw[yg1,yf this];rfl
end
def yZ(P:Program)(t:TypeId):Prop:=(∃k,P.underlying t=some (.int k))\/P.underlying t=some .bool\/P.underlying t=some .string\/∃e,P.underlying t=some (.slice e)
theorem Rh{m:Nat}{t:TypeId}{cs:List Value}{x:DataW H×List MemPlace}(J:yZ P t)(h:vF enc P w m t cs=some x): ∃v,cs= [v]:=by
 rcases J with ⟨k,ht⟩|ht|ht|⟨e,ht⟩
 ·obtain⟨n,h,_⟩:=DataW.trod_int ht h;exact⟨_,h⟩
 ·obtain⟨n,h,_⟩:=DataW.trod_bool ht h;exact⟨_,h⟩
 ·obtain⟨n,h,_⟩:=DataW.trod_string ht h;exact⟨_,h⟩
 ·rcases DataW.trod_slice ht h with ⟨h,_⟩|⟨_,_,_,_,_,_,_,h,_⟩<;>exact⟨_,h⟩
theorem Hz{f:TypeId->Option (List (Nat×TypeId))}: ∀{fs:List Field} {l:List (Nat×TypeId)},HO f fs=some l->∀q∈l,∃(i:Nat) (x:Field) (a:List (Nat×TypeId)) (J:Nat×TypeId),fs[i]?=some x/\f x.type=some a/\J∈a/\q=(x.offset+J.1,J.2)
 | [],l,h,q,K=>by simp[HO]at h;subst h;cases K
 |x::r,l,h,q,K=>by
  simp only[HO,yy1,ye]at h;obtain⟨a,W,b,V,rfl⟩:=h;rcases yn1.1 K with K|K
  ·obtain⟨J,M,rfl⟩:=yh3.1 K;exact⟨0,x,a,J,rfl,W,M,rfl⟩
  ·obtain⟨i,y,N,J,Z,O,U,Y⟩:=Hz V q K;exact⟨i+1,y,N,J,by simpa using Z,O,U,Y⟩
theorem CD: ∀(k:Nat) {fuel:Nat} {t:TypeId} {cs:List Value} {x:DataW H×List MemPlace} {l:List (Nat×TypeId)},Mt P k t=some l->vF enc P w fuel t cs=some x->Lw P t x.1->
  ∀q∈l,yZ P q.2->∃m v y,m≤fuel/\cs[q.1]?=some v/\vF enc P w m q.2 [v]=some y/\Lw P q.2 y.1
 |0,fuel,t,cs,x,l,M,h,hw,q,Y,J=>by cases M
 |k+1,fuel,t,cs,x,l,M,h,hw,q,Y,J=>by
  unfold Mt at M;split at M
  ·rename_i fs ht;obtain⟨xs,n,hfu,hx,hlen,hxl,Z⟩:=DataW.trod_struct ht h;obtain⟨i,f,a,q',U,h2,h3,rfl⟩:=Hz M q Y;have hi:i<fs.size:=by
    rcases yl2 i fs.size with h|h
    ·exact h
    ·rw[yd1 (by simpa using h)]at U;cases U
   have h4:=Z i f (by rw[<-yq1];exact U);have O:i<xs.length:=by omega
   rw[yf O]at h4;have W:Lw P f.type xs[i].1:=by
    intro k hk;subst hx;have K:=hw;unfold Lw at K;simp only[DataW.weights,ht]at K;refine K k (DataW.weights_mem_each (j:=i) (t:=f.type) (d:=xs[i].1) ?_ ?_ k hk)
    ·rw[yg1,U];rfl
    ·rw[yg1,yf O];rfl
   obtain⟨m,v,y,hm,N,hy,V⟩:=CD k h2 h4 W q' h3 J;refine⟨m,v,y,by omega,?_,hy,V⟩;rw[ys1]at N;split at N
   ·rw[ye1]at N;exact N
   ·cases N
  ·cases M
  ·have:=ya M;subst this;obtain rfl:=yh1.1 Y;obtain⟨v,rfl⟩:=Rh J h;exact⟨fuel,v,x,ya1 _,rfl,h,hw⟩
end
end Go.Ab
