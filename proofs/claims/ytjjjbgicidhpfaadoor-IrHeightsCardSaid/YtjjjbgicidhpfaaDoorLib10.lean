import Derived.Test.YtjjjbgicidhpfaaDoorLib9
set_option linter.unusedVariables false
set_option linter.unusedSectionVars false
namespace Go.Ab
variable {S X A α:Type} {B:S->Option (S⊕X)}
theorem FC{xs:List A}{mk:Nat->α->S}{f:α->A->α}{e:α->X}{I:Nat->α->Prop}
  (hs: ∀i a x,xs[i]?=some x->I i a->B (mk i a)=some (.inl (mk (i+1) (f a x)))/\I (i+1) (f a x))
  (J: ∀a,I xs.length a->B (mk xs.length a)=some (.inr (e a))): ∀(j i n:Nat) (a:α),i+j=xs.length->I i a->j<n->aM B n (mk i a)=some (e ((xs.drop i).foldl f a))/\I xs.length ((xs.drop i).foldl f a)
 |0,i,n+1,a,M,hI,hn=>by
  obtain rfl:i=xs.length:=by omega
  rw[cA (J a hI),List.drop_length];exact⟨rfl,hI⟩
 |j+1,i,n+1,a,M,hI,hn=>by
  have H:i<xs.length:=by omega
  have K:xs[i]?=some xs[i]:=ye H;have N:xs.drop i=xs[i]::xs.drop (i+1):=yu3 H;rw[N,List.foldl_cons];obtain⟨U,O⟩:=hs i a xs[i] K hI;rw[cB U];exact FC hs J j (i+1) n _ (by omega) O (by omega)
 |_,_,0,_,_,_,hn=>by omega
theorem fI{xs:List A}{mk:Nat->α->S}{I:Nat->α->Prop}{Q:X->Prop}
  (hs: ∀i a x,xs[i]?=some x->I i a->(∃K,B (mk i a)=some (.inl (mk (i+1) K))/\I (i+1) K)\/∃y,B (mk i a)=some (.inr y)/\Q y)
  (N: ∀a,I xs.length a->∃y,B (mk xs.length a)=some (.inr y)/\Q y): ∀(j i n:Nat) (a:α),i+j=xs.length->I i a->j<n->∃y,aM B n (mk i a)=some y/\Q y
 |0,i,n+1,a,U,hI,hn=>by
  obtain rfl:i=xs.length:=by omega
  obtain⟨y,J,H⟩:=N a hI;exact⟨y,cA J,H⟩
 |j+1,i,n+1,a,U,hI,hn=>by
  have M:i<xs.length:=by omega
  have O:xs[i]?=some xs[i]:=ye M;rcases hs i a xs[i] O hI with ⟨K,J,H⟩|⟨y,J,H⟩
  ·rw[cB J];exact fI hs N j (i+1) n K (by omega) H (by omega)
  ·exact⟨y,cA J,H⟩
 |_,_,0,_,_,_,hn=>by omega
theorem kM{p:A->Bool}{xs:List A}{i:Nat}{x:A}(h:xs[i]?=some x):(xs.take (i+1)).all p=((xs.take i).all p&&p x):=by
 rw[ye3,h,List.all_append];simp
theorem eO{β:Type}{f:A->List β}{xs:List A}{i:Nat}{x:A}(h:xs[i]?=some x):(xs.take (i+1)).flatMap f=(xs.take i).flatMap f++f x:=by
 rw[ye3,h,List.flatMap_append];simp
theorem CU{p:A->Bool}{xs:List A}{i:Nat}{x:A}(h:xs[i]?=some x)(H:p x=false):xs.all p=false:=by
 rw[List.all_eq_false];exact⟨x,yj h,by rw[H];simp⟩
theorem b8{xs:List A}{mk:Nat->S}{p:A->Bool}{found:Nat->A->X}{e:X}
  (hs: ∀i x,xs[i]?=some x->B (mk i)=(if p x=true then some (.inr (found i x))else some (.inl (mk (i+1)))))
  (N:B (mk xs.length)=some (.inr e)): ∀(j i n:Nat),i+j=xs.length->j<n->
  ((xs.drop i).any p=true/\∃k x,xs[k]?=some x/\p x=true/\aM B n (mk i)=some (found k x))\/((xs.drop i).any p=false/\aM B n (mk i)=some e)
 |0,i,n+1,O,hn=>by
  obtain rfl:i=xs.length:=by omega
  rw[cA N,List.drop_length];exact .inr ⟨rfl,rfl⟩
 |j+1,i,n+1,O,hn=>by
  have H:i<xs.length:=by omega
  have M:xs[i]?=some xs[i]:=ye H;have U:xs.drop i=xs[i]::xs.drop (i+1):=yu3 H;rw[U,List.any_cons];have J:=hs i xs[i] M;cases K:p xs[i]with
  |true=>
   rw[K,if_pos rfl]at J;rw[cA J];exact .inl ⟨rfl,i,xs[i],M,K,rfl⟩
  |false=>
   rw[K,if_neg (by simp)]at J;rw[cB J,yb4];exact b8 hs N j (i+1) n (by omega) (by omega)
 |_,_,0,_,hn=>by omega
theorem CY{β:Type}(f:A->List β): ∀(xs:List A) (a:List β),xs.foldl (λa x=>a++f x) a=a++xs.flatMap f
 | [],a=>by simp
 |x::xs,a=>by rw[List.foldl_cons,CY f xs,List.flatMap_cons,yw1]
theorem cY{β:Type}(f:A->List β)(c:Nat): ∀(xs:List A),(∀x∈xs,(f x).length≤c)->(xs.flatMap f).length≤c*xs.length
 | [],h=>by simp
 |x::xs,h=>by
  rw[List.flatMap_cons,yi,yw,Nat.mul_succ];have:=h x (by simp);have:=cY f c xs λy H=>h y (by simp[H]);omega
theorem fF{β:Type}{xs:List A}{mk:Nat->List β->S}{f:A->List β}{e:List β->X}{c:Nat}{m0:List β}
  (hc: ∀x∈xs,(f x).length≤c) {cap:Nat} (K:m0.length+c*xs.length≤cap)
  (hs: ∀i a x,xs[i]?=some x->x∈xs->a.length+(f x).length≤cap->B (mk i a)=some (.inl (mk (i+1) (a++f x))))
  (M: ∀a,B (mk xs.length a)=some (.inr (e a))) {n:Nat} (hn:xs.length<n):aM B n (mk 0 m0)=some (e (m0++xs.flatMap f)):=by
 have h:=FC (B:=B) (xs:=xs) (mk:=mk) (f:=λa x=>a++f x) (e:=e) (I:=λi a=>a.length≤m0.length+c*i/\i≤xs.length)
  (λi a x H hI=>?_) (λa _=>M a) xs.length 0 n m0 (by omega) ⟨by simp,by omega⟩ hn
 ·rw[h.1,yd2,CY]
 ·have hm:x∈xs:=yj H;have h1:=hc x hm;have J:i<xs.length:=by
   rcases yq2 i xs.length with h|h
   ·exact h
   ·rw[yc1 h]at H;cases H
  have N:c*(i+1)≤c*xs.length:=Nat.mul_le_mul_left c J;rw[Nat.mul_succ]at N;refine⟨hs i a x H hm (by omega),by rw[yi,Nat.mul_succ];omega,J⟩
theorem aT{i:Nat}(h:i<4294967296):aK .i64 (i:Int) 1=((i+1:Nat):Int):=by
 rw[aW (by omega) (by omega)];omega
theorem aU{xs:List A}{i:Nat}{x:A}(h:xs[i]?=some x):i<xs.length:=by
 rcases yq2 i xs.length with H|H
 ·exact H
 ·rw[yc1 H]at h;cases h
theorem bB{β:Type}{l:List β}(h:l.length≤4294967296):Nat.ble l.length 4294967296=true:=yl1 h
end Go.Ab
