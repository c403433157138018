import Derived.Test.YtjjjbgicidhpfaaDoorLib28
set_option linter.unusedVariables false
set_option linter.unusedSectionVars false
namespace Go.Ab
variable [b3]
variable {P:Program} {tab:TypeId->Option TI}
def bC(P:Program)(g:FuncId)(E:aD):Prop:=Lh E=true/\vI P g E
def BD(P:Program)(tbl:FuncId->List aD):Prop:= ∀g,∀E∈tbl g,bC P g E
theorem BD.nil:BD P (λ_=> []):=λ_ _ h=>by cases h
theorem AllE.nil{g:FuncId}: ∀E∈([]:List aD),bC P g E:=λ_ h=>by cases h
theorem AllE.cons{g:FuncId}{E:aD}{l:List aD}(h:bC P g E)(I: ∀E∈l,bC P g E): ∀H∈E::l,bC P g H:=by
 intro H hE;rcases yl1.1 hE with rfl|hE
 ·exact h
 ·exact I _ hE
theorem BD.cons{g:FuncId}{l:List aD}{rest:FuncId->List aD}(h: ∀E∈l,bC P g E)(hr:BD P rest):BD P (λf=>bif Nat.beq f g then l else rest f):=by
 intro f E hE;simp only at hE;cases H:Nat.beq f g with
 |true=>
  rw[H]at hE;obtain rfl:=nb.1 H;exact h E hE
 |false=>
  rw[H]at hE;exact hr f E hE
def Ig(tab:TypeId->Option TI)(tbl:FuncId->List aD)(loops:Nat->Option aT)(an:kQ)(old:List (Option Bool))(n:Nat)(bid:Nat)(c:Code)(L:aT):Prop:=
 ∃(live:List Nat) (B:dV L.heads->Option (dV L.heads⊕dV L.outs)),cP bid an.live=some live/\c9 0 live=true/\(∀s,L.run s=b8 B n s)/\
  ∀s,A1 (aQ _) tab tbl loops an old c bid live L.heads L.outs s some=B s
def LT(tab:TypeId->Option TI)(tbl:FuncId->List aD)(loops:Nat->Option aT)(an:kQ)(old:List (Option Bool))(n:Nat)(c:Code)(l:Nat->Option aT):Prop:=
 ∀bid L,l bid=some L->∀c',cP bid (eK c 0)=some c'->Ig tab tbl loops an old n bid c' L
section
variable {tbl:FuncId->List aD} {loops:Nat->Option aT} {an:kQ} {old:List (Option Bool)} {n:Nat} {c:Code}
theorem LT.nil:LT tab tbl loops an old n c (λ_=>none):=λ_ _ h=>by cases h
theorem LT.cons{H:Nat}{L:aT}{K:Code}{rest:Nat->Option aT}(O:cP H (eK c 0)=some K)(h:Ig tab tbl loops an old n H K L)(hr:LT tab tbl loops an old n c rest):
  LT tab tbl loops an old n c (λf=>bif Nat.beq f H then some L else rest f):=by
 intro f M hL N I;simp only at hL;cases J:Nat.beq f H with
 |true=>
  rw[J]at hL;obtain rfl:=nb.1 J;have:=ya hL;subst this;rw[O]at I;obtain rfl:=ya I;exact h
 |false=>
  rw[J]at hL;exact hr f M hL N I
theorem zD{α:Type}: ∀{l:List (Nat×α)} {q:Nat×α},dB (l.map (·.1))=true->q∈l->cP q.1 l=some q.2
 | [],q,_,h=>by cases h
 |p::l,q,hn,h=>by
  have H:(!(dL p.1 (l.map (·.1)))&&dB (l.map (·.1)))=true:=hn
  simp only[yb,yq]at H
  show(bif Nat.beq p.1 q.1 then some p.2 else cP q.1 l)=some q.2
  rcases yl1.1 h with rfl|h
  ·rw[yf3];rfl
  ·have:Nat.beq p.1 q.1=false:=by
    cases I:Nat.beq p.1 q.1 with
    |true=>
     exfalso;have hm:dL p.1 (l.map (·.1))=true:=jO.2 (by rw[nb.1 I];exact List.mem_map_of_mem h)
     rw[hm]at H;cases H.1
    |false=>rfl
   rw[this];exact zD H.2 h
theorem LT.ok(hn:dB ((eK c 0).map (·.1))=true)(h:LT tab tbl loops an old n c loops):m6 tab tbl loops an old n c 0:=λq H L hL=>h q.1 L hL q.2 (zD hn H)
theorem bC.of(hn:mQ P=true)(hm:P.follows .mixedOrders=true)(ht:bL P tab)(hT:BD P tbl){f:FuncId}{fn:Func}(M:P.funcs[f]?=some fn)(O:fn.body=some c){E:aD}
  (K:NT fn c E=true) (J:dB ((eK c 0).map (·.1))=true) (H: ∀d,eV (fM E.a.msh d)=old) (N:LT tab tbl loops an old n c loops)
  (I: ∀a,NW (aQ (dV E.r)) tab tbl loops an fn E.a E.r a some=E.sh a):bC P f E:=
 ⟨by simp only[NT,yb]at K;exact K.1.1,Ho hn hm ht (λg=>yi2.2 λE hE=>(hT g E hE).1) (λg E hE=>(hT g E hE).2) M O K H (N.ok J) I⟩
theorem bC.none{f:FuncId}{E:aD}(I:Lh E=true)(h: ∀a,E.sh a=none):bC P f E:=
 ⟨I,λa b H=>by rw[h]at H;cases H⟩
end
end Go.Ab
