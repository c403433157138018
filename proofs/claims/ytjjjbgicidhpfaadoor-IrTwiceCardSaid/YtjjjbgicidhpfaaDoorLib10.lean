import Derived.Test.YtjjjbgicidhpfaaDoorLib9
set_option linter.unusedVariables false
set_option linter.unusedSectionVars false
namespace Go.Ab
variable {S X A α:Type} {B:S->Option (S⊕X)}
theorem I2{xs:List A}{mk:Nat->α->S}{f:α->A->α}{e:α->X}{I:Nat->α->Prop}
  (hs: ∀i a x,xs[i]?=some x->I i a->B (mk i a)=some (.inl (mk (i+1) (f a x)))/\I (i+1) (f a x))
  (J: ∀a,I xs.length a->B (mk xs.length a)=some (.inr (e a))): ∀(j i n:Nat) (a:α),i+j=xs.length->I i a->j<n->aY B n (mk i a)=some (e ((xs.drop i).foldl f a))/\I xs.length ((xs.drop i).foldl f a)
 |0,i,n+1,a,K,hI,hn=>by
  obtain rfl:i=xs.length:=by omega
  rw[b4 (J a hI),List.drop_length];exact⟨rfl,hI⟩
 |j+1,i,n+1,a,K,hI,hn=>by
  have H:i<xs.length:=by omega
  have N:xs[i]?=some xs[i]:=yf H;have O:xs.drop i=xs[i]::xs.drop (i+1):=yu3 H;rw[O,List.foldl_cons];obtain⟨U,M⟩:=hs i a xs[i] N hI;rw[b8 U];exact I2 hs J j (i+1) n _ (by omega) M (by omega)
 |_,_,0,_,_,_,hn=>by omega
theorem Cl{xs:List A}{mk:Nat->α->S}{I:Nat->α->Prop}{Q:X->Prop}
  (hs: ∀i a x,xs[i]?=some x->I i a->(∃K,B (mk i a)=some (.inl (mk (i+1) K))/\I (i+1) K)\/∃y,B (mk i a)=some (.inr y)/\Q y)
  (N: ∀a,I xs.length a->∃y,B (mk xs.length a)=some (.inr y)/\Q y): ∀(j i n:Nat) (a:α),i+j=xs.length->I i a->j<n->∃y,aY B n (mk i a)=some y/\Q y
 |0,i,n+1,a,O,hI,hn=>by
  obtain rfl:i=xs.length:=by omega
  obtain⟨y,J,H⟩:=N a hI;exact⟨y,b4 J,H⟩
 |j+1,i,n+1,a,O,hI,hn=>by
  have M:i<xs.length:=by omega
  have U:xs[i]?=some xs[i]:=yf M;rcases hs i a xs[i] U hI with ⟨K,J,H⟩|⟨y,J,H⟩
  ·rw[b8 J];exact Cl hs N j (i+1) n K (by omega) H (by omega)
  ·exact⟨y,b4 J,H⟩
 |_,_,0,_,_,_,hn=>by omega
theorem dF{xs:List A}{mk:Nat->S}{p:A->Bool}{found:Nat->A->X}{e:X}
  (hs: ∀i x,xs[i]?=some x->B (mk i)=(if p x=true then some (.inr (found i x))else some (.inl (mk (i+1)))))
  (M:B (mk xs.length)=some (.inr e)): ∀(j i n:Nat),i+j=xs.length->j<n->
  ((xs.drop i).any p=true/\∃k x,xs[k]?=some x/\p x=true/\aY B n (mk i)=some (found k x))\/((xs.drop i).any p=false/\aY B n (mk i)=some e)
 |0,i,n+1,O,hn=>by
  obtain rfl:i=xs.length:=by omega
  rw[b4 M,List.drop_length];exact .inr ⟨rfl,rfl⟩
 |j+1,i,n+1,O,hn=>by
  have H:i<xs.length:=by omega
  have N:xs[i]?=some xs[i]:=yf H;have U:xs.drop i=xs[i]::xs.drop (i+1):=yu3 H;rw[U,List.any_cons];have J:=hs i xs[i] N;cases K:p xs[i]with
  |true=>
   rw[K,if_pos rfl]at J;rw[b4 J];exact .inl ⟨rfl,i,xs[i],N,K,rfl⟩
  |false=>
   rw[K,if_neg (by simp)]at J;rw[b8 J,yg4];exact dF hs M j (i+1) n (by omega) (by omega)
 |_,_,0,_,hn=>by omega
theorem Bl{β:Type}(f:A->List β): ∀(xs:List A) (a:List β),xs.foldl (λa x=>a++f x) a=a++xs.flatMap f
 | [],a=>by simp
 |x::xs,a=>by rw[List.foldl_cons,Bl f xs,List.flatMap_cons,ya3]
theorem fY{β:Type}(f:A->List β)(c:Nat): ∀(xs:List A),(∀x∈xs,(f x).length≤c)->(xs.flatMap f).length≤c*xs.length
 | [],h=>by simp
 |x::xs,h=>by
  rw[List.flatMap_cons,yi,yz,Nat.mul_succ];have:=h x (by simp);have:=fY f c xs λy H=>h y (by simp[H]);omega
theorem f5{β:Type}{xs:List A}{mk:Nat->List β->S}{f:A->List β}{e:List β->X}{c:Nat}{m0:List β}
  (hc: ∀x∈xs,(f x).length≤c) {cap:Nat} (K:m0.length+c*xs.length≤cap)
  (hs: ∀i a x,xs[i]?=some x->x∈xs->a.length+(f x).length≤cap->B (mk i a)=some (.inl (mk (i+1) (a++f x))))
  (N: ∀a,B (mk xs.length a)=some (.inr (e a))) {n:Nat} (hn:xs.length<n):aY B n (mk 0 m0)=some (e (m0++xs.flatMap f)):=by
 have h:=I2 (B:=B) (xs:=xs) (mk:=mk) (f:=λa x=>a++f x) (e:=e) (I:=λi a=>a.length≤m0.length+c*i/\i≤xs.length)
  (λi a x H hI=>?_) (λa _=>N a) xs.length 0 n m0 (by omega) ⟨by simp,by omega⟩ hn
 ·rw[h.1,yp2,Bl]
 ·have hm:x∈xs:=yk H;have h1:=hc x hm;have J:i<xs.length:=by
   rcases yl2 i xs.length with h|h
   ·exact h
   ·rw[yd1 h]at H;cases H
  have M:c*(i+1)≤c*xs.length:=Nat.mul_le_mul_left c J;rw[Nat.mul_succ]at M;refine⟨hs i a x H hm (by omega),by rw[yi,Nat.mul_succ];omega,J⟩
theorem bU{i:Nat}(h:i<4294967296):aX .i64 (i:Int) 1=((i+1:Nat):Int):=by
 rw[cL (by omega) (by omega)];omega
theorem bH{xs:List A}{i:Nat}{x:A}(h:xs[i]?=some x):i<xs.length:=by
 rcases yl2 i xs.length with H|H
 ·exact H
 ·rw[yd1 H]at h;cases h
theorem cV{β:Type}{l:List β}(h:l.length≤4294967296):Nat.ble l.length 4294967296=true:=yr1 h
end Go.Ab
