import Derived.Test.YtjjjbgicidhpfaaDoorLib7
set_option linter.unusedVariables false
set_option linter.unusedSectionVars false
namespace Go.Ab
variable {S X:Type} {B:S->Option (S⊕X)}
theorem Kt{n:Nat}{s H:S}(h:B s=some (.inl H)):b8 B (n+1) s=b8 B n H:=by
 show((B s).bind λq=>Sum.rec (λH=>b8 B n H) (λx=>some x) q)=_
 rw[h];rfl
theorem Ms{n:Nat}{s:S}{x:X}(h:B s=some (.inr x)):b8 B (n+1) s=some x:=by
 show((B s).bind λq=>Sum.rec (λH=>b8 B n H) (λx=>some x) q)=_
 rw[h];rfl
theorem Gt{f:Nat->S}{k:Nat}{x:X}(hs: ∀i,i<k->B (f i)=some (.inl (f (i+1))))(H:B (f k)=some (.inr x)): ∀(j i n:Nat),i+j=k->j<n->b8 B n (f i)=some x
 |0,i,n+1,I,hn=>by
  obtain rfl:i=k:=by omega
  exact Ms H
 |j+1,i,n+1,I,hn=>by
  rw[Kt (hs i (by omega))];exact Gt hs H j (i+1) n (by omega) (by omega)
 |_,_,0,_,hn=>by omega
end Go.Ab
