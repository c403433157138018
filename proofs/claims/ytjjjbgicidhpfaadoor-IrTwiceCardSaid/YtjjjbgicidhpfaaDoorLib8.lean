import Derived.Test.YtjjjbgicidhpfaaDoorLib7
set_option linter.unusedVariables false
set_option linter.unusedSectionVars false
namespace Go.Ab
variable {S X:Type} {B:S->Option (S⊕X)}
theorem b8{n:Nat}{s s':S}(h:B s=some (.inl s')):aY B (n+1) s=aY B n s':=by
 show((B s).bind λq=>Sum.rec (λs'=>aY B n s') (λx=>some x) q)=_
 rw[h];rfl
theorem b4{n:Nat}{s:S}{x:X}(h:B s=some (.inr x)):aY B (n+1) s=some x:=by
 show((B s).bind λq=>Sum.rec (λs'=>aY B n s') (λx=>some x) q)=_
 rw[h];rfl
theorem qZ{f:Nat->S}{k:Nat}{x:X}(hs: ∀i,i<k->B (f i)=some (.inl (f (i+1))))(H:B (f k)=some (.inr x)): ∀(j i n:Nat),i+j=k->j<n->aY B n (f i)=some x
 |0,i,n+1,J,hn=>by
  obtain rfl:i=k:=by omega
  exact b4 H
 |j+1,i,n+1,J,hn=>by
  rw[b8 (hs i (by omega))];exact qZ hs H j (i+1) n (by omega) (by omega)
 |_,_,0,_,hn=>by omega
end Go.Ab
