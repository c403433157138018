import Derived.Test.YtjjjbgicidhpfaaDoorLib29
set_option linter.unusedVariables false
set_option linter.unusedSectionVars false
namespace Go.Ab
variable [cS]
variable {P:Program} {tab:TypeId->Option TI}
def a6(P:Program)(g:FuncId)(E:aG):Prop:=Q7 E=true/\AF P g E
def Ge(P:Program)(tbl:FuncId->List aG):Prop:= ∀g,∀E∈tbl g,a6 P g E
theorem Ge.nil:Ge P (λ_=> []):=λ_ _ h=>by cases h
theorem AllE.nil{g:FuncId}: ∀E∈([]:List aG),a6 P g E:=λ_ h=>by cases h
theorem AllE.cons{g:FuncId}{E:aG}{l:List aG}(h:a6 P g E)(J: ∀E∈l,a6 P g E): ∀H∈E::l,a6 P g H:=by
 intro H hE;rcases yk1.1 hE with rfl|hE
 ·exact h
 ·exact J _ hE
theorem Ge.cons{g:FuncId}{l:List aG}{rest:FuncId->List aG}(h: ∀E∈l,a6 P g E)(hr:Ge P rest):Ge P (λf=>bif Nat.beq f g then l else rest f):=by
 intro f E hE;simp only at hE;cases H:Nat.beq f g with
 |true=>
  rw[H]at hE;obtain rfl:=nb.1 H;exact h E hE
 |false=>
  rw[H]at hE;exact hr f E hE
def MZ(tab:TypeId->Option TI)(tbl:FuncId->List aG)(loops:Nat->Option aQ)(an:o5)(old:List (Option Bool))(n:Nat)(bid:Nat)(c:Code)(L:aQ):Prop:=
 ∃(live:List Nat) (B:fG L.heads->Option (fG L.heads⊕fG L.outs)),dS bid an.live=some live/\eG 0 live=true/\(∀s,L.run s=aM B n s)/\
  ∀s,Fu (aZ _) tab tbl loops an old c bid live L.heads L.outs s some=B s
def LT(tab:TypeId->Option TI)(tbl:FuncId->List aG)(loops:Nat->Option aQ)(an:o5)(old:List (Option Bool))(n:Nat)(c:Code)(l:Nat->Option aQ):Prop:=
 ∀bid L,l bid=some L->∀c',dS bid (gK c 0)=some c'->MZ tab tbl loops an old n bid c' L
section
variable {tbl:FuncId->List aG} {loops:Nat->Option aQ} {an:o5} {old:List (Option Bool)} {n:Nat} {c:Code}
theorem LT.nil:LT tab tbl loops an old n c (λ_=>none):=λ_ _ h=>by cases h
theorem LT.cons{H:Nat}{L:aQ}{M:Code}{rest:Nat->Option aQ}(hc:dS H (gK c 0)=some M)(h:MZ tab tbl loops an old n H M L)(hr:LT tab tbl loops an old n c rest):
  LT tab tbl loops an old n c (λf=>bif Nat.beq f H then some L else rest f):=by
 intro f N hL O J;simp only at hL;cases K:Nat.beq f H with
 |true=>
  rw[K]at hL;obtain rfl:=nb.1 K;have:=yb hL;subst this;rw[hc]at J;obtain rfl:=yb J;exact h
 |false=>
  rw[K]at hL;exact hr f N hL O J
theorem C4{α:Type}: ∀{l:List (Nat×α)} {q:Nat×α},eN (l.map (·.1))=true->q∈l->dS q.1 l=some q.2
 | [],q,_,h=>by cases h
 |p::l,q,hn,h=>by
  have H:(!(eY p.1 (l.map (·.1)))&&eN (l.map (·.1)))=true:=hn
  simp only[yc,yx]at H
  show(bif Nat.beq p.1 q.1 then some p.2 else dS q.1 l)=some q.2
  rcases yk1.1 h with rfl|h
  ·rw[yr3];rfl
  ·have:Nat.beq p.1 q.1=false:=by
    cases J:Nat.beq p.1 q.1 with
    |true=>
     exfalso
     have hm:eY p.1 (l.map (·.1))=true:=nG.2 (by rw[nb.1 J];exact List.mem_map_of_mem h)
     rw[hm]at H;cases H.1
    |false=>rfl
   rw[this];exact C4 H.2 h
theorem LT.ok(hn:eN ((gK c 0).map (·.1))=true)(h:LT tab tbl loops an old n c loops):rM tab tbl loops an old n c 0:=λq H L hL=>h q.1 L hL q.2 (C4 hn H)
theorem a6.of(hn:rF P=true)(hm:P.follows .mixedOrders=true)(ht:b9 P tab)(hT:Ge P tbl){f:FuncId}{fn:Func}(hf:P.funcs[f]?=some fn)(N:fn.body=some c){E:aG}
  (M:UC fn c E=true) (K:eN ((gK c 0).map (·.1))=true) (J: ∀d,iD (jC E.a.msh d)=old) (O:LT tab tbl loops an old n c loops)
  (H: ∀a,US (aZ (fG E.r)) tab tbl loops an fn E.a E.r a some=E.sh a):a6 P f E:=
 ⟨by simp only[UC,yc]at M;exact M.1.1,Lf hn hm ht (λg=>ya1.2 λE hE=>(hT g E hE).1) (λg E hE=>(hT g E hE).2) hf N M J (O.ok K) H⟩
theorem a6.none{f:FuncId}{E:aG}(J:Q7 E=true)(h: ∀a,E.sh a=none):a6 P f E:=
 ⟨J,λa b H=>by rw[h]at H;cases H⟩
end
end Go.Ab
