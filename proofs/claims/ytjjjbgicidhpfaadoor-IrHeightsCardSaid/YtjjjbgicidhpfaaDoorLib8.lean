import Derived.Test.YtjjjbgicidhpfaaDoorLib7
set_option linter.unusedVariables false
set_option linter.unusedSectionVars false
namespace Go.Ab
variable {S X:Type} {B:S->Option (S⊕X)}
theorem cB{n:Nat}{s s':S}(h:B s=some (.inl s')):aM B (n+1) s=aM B n s':=by
 show((B s).bind λq=>Sum.rec (λs'=>aM B n s') (λx=>some x) q)=_
 rw[h];rfl
theorem cA{n:Nat}{s:S}{x:X}(h:B s=some (.inr x)):aM B (n+1) s=some x:=by
 show((B s).bind λq=>Sum.rec (λs'=>aM B n s') (λx=>some x) q)=_
 rw[h];rfl
theorem eQ{f:Nat->S}{k:Nat}{x:X}(hs: ∀i,i<k->B (f i)=some (.inl (f (i+1))))(H:B (f k)=some (.inr x)): ∀(j i n:Nat),i+j=k->j<n->aM B n (f i)=some x
 |0,i,n+1,J,hn=>by
  obtain rfl:i=k:=by omega
  exact cA H
 |j+1,i,n+1,J,hn=>by
  rw[cB (hs i (by omega))];exact eQ hs H j (i+1) n (by omega) (by omega)
 |_,_,0,_,hn=>by omega
theorem ID{I:S->Prop}{m:S->Nat}{Q:X->Prop}(h: ∀s,I s->(∃s',B s=some (.inl s')/\I s'/\m s'<m s)\/∃x,B s=some (.inr x)/\Q x): ∀(n:Nat) (s:S),I s->m s<n->∃x,aM B n s=some x/\Q x
 |0,s,_,hn=>by omega
 |n+1,s,hI,hn=>by
  rcases h s hI with ⟨s',H,J,hm⟩|⟨x,H,K⟩
  ·rw[cB H];exact ID h n s' J (by omega)
  ·exact⟨x,cA H,K⟩
theorem H5{x:X}: ∀{n:Nat} {s:S},aM B n s=some x->∀m,n≤m->aM B m s=some x
 |0,s,h,_,_=>by cases h
 |n+1,s,h,0,hm=>by omega
 |n+1,s,h,m+1,hm=>by
  have H:((B s).bind λq=>Sum.rec (λs'=>aM B n s') (λx=>some x) q)=some x:=h;obtain⟨q,J,H⟩:=yp1.1 H;cases q with
  |inl s'=>rw[cB J];exact H5 H m (by omega)
  |inr y=>
   rw[cA J];exact H
end Go.Ab
