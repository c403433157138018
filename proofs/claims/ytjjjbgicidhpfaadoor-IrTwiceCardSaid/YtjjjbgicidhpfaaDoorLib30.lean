import Derived.Test.YtjjjbgicidhpfaaDoorLib29
set_option linter.unusedVariables false
set_option linter.unusedSectionVars false
namespace Go.Ab
variable [cF]
variable {P:Program} {tab:TypeId->Option TI}
def bE(P:Program)(g:FuncId)(E:aE):Prop:=Pf E=true/\y3 P g E
def Es(P:Program)(tbl:FuncId->List aE):Prop:= ∀g,∀E∈tbl g,bE P g E
theorem Es.nil:Es P (λ_=> []):=λ_ _ h=>by cases h
theorem AllE.nil{g:FuncId}: ∀E∈([]:List aE),bE P g E:=λ_ h=>by cases h
theorem AllE.cons{g:FuncId}{E:aE}{l:List aE}(h:bE P g E)(J: ∀E∈l,bE P g E): ∀H∈E::l,bE P g H:=by
 intro H hE;rcases yj1.1 hE with rfl|hE
 ·exact h
 ·exact J _ hE
theorem Es.cons{g:FuncId}{l:List aE}{rest:FuncId->List aE}(h: ∀E∈l,bE P g E)(hr:Es P rest):Es P (λf=>bif Nat.beq f g then l else rest f):=by
 intro f E hE;simp only at hE;cases H:Nat.beq f g with
 |true=>
  rw[H]at hE;obtain rfl:=nb.1 H;exact h E hE
 |false=>
  rw[H]at hE;exact hr f E hE
def Ms(tab:TypeId->Option TI)(tbl:FuncId->List aE)(loops:Nat->Option aT)(an:nB)(old:List (Option Bool))(n:Nat)(bid:Nat)(c:Code)(L:aT):Prop:=
 ∃(live:List Nat) (B:eN L.heads->Option (eN L.heads⊕eN L.outs)),dB bid an.live=some live/\dR 0 live=true/\(∀s,L.run s=aY B n s)/\
  ∀s,Cr (aS _) tab tbl loops an old c bid live L.heads L.outs s some=B s
def LT(tab:TypeId->Option TI)(tbl:FuncId->List aE)(loops:Nat->Option aT)(an:nB)(old:List (Option Bool))(n:Nat)(c:Code)(l:Nat->Option aT):Prop:=
 ∀bid L,l bid=some L->∀c',dB bid (fK c 0)=some c'->Ms tab tbl loops an old n bid c' L
section
variable {tbl:FuncId->List aE} {loops:Nat->Option aT} {an:nB} {old:List (Option Bool)} {n:Nat} {c:Code}
theorem LT.nil:LT tab tbl loops an old n c (λ_=>none):=λ_ _ h=>by cases h
theorem LT.cons{H:Nat}{L:aT}{M:Code}{rest:Nat->Option aT}(hc:dB H (fK c 0)=some M)(h:Ms tab tbl loops an old n H M L)(hr:LT tab tbl loops an old n c rest):
  LT tab tbl loops an old n c (λf=>bif Nat.beq f H then some L else rest f):=by
 intro f N hL O J;simp only at hL;cases K:Nat.beq f H with
 |true=>
  rw[K]at hL;obtain rfl:=nb.1 K;have:=ya hL;subst this;rw[hc]at J;obtain rfl:=ya J;exact h
 |false=>
  rw[K]at hL;exact hr f N hL O J
theorem Cb{α:Type}: ∀{l:List (Nat×α)} {q:Nat×α},dY (l.map (·.1))=true->q∈l->dB q.1 l=some q.2
 | [],q,_,h=>by cases h
 |p::l,q,hn,h=>by
  have H:(!(eC p.1 (l.map (·.1)))&&dY (l.map (·.1)))=true:=hn
  simp only[yc,yw]at H
  show(bif Nat.beq p.1 q.1 then some p.2 else dB q.1 l)=some q.2
  rcases yj1.1 h with rfl|h
  ·rw[yg3];rfl
  ·have:Nat.beq p.1 q.1=false:=by
    cases J:Nat.beq p.1 q.1 with
    |true=>
     exfalso
     have hm:eC p.1 (l.map (·.1))=true:=lR.2 (by rw[nb.1 J];exact List.mem_map_of_mem h)
     rw[hm]at H;cases H.1
    |false=>rfl
   rw[this];exact Cb H.2 h
theorem LT.ok(hn:dY ((fK c 0).map (·.1))=true)(h:LT tab tbl loops an old n c loops):pR tab tbl loops an old n c 0:=λq H L hL=>h q.1 L hL q.2 (Cb hn H)
theorem bE.of(hn:pU P=true)(hm:P.follows .mixedOrders=true)(ht:bT P tab)(hT:Es P tbl){f:FuncId}{fn:Func}(hf:P.funcs[f]?=some fn)(O:fn.body=some c){E:aE}
  (M:SG fn c E=true) (K:dY ((fK c 0).map (·.1))=true) (H: ∀d,f8 (gX E.a.msh d)=old) (N:LT tab tbl loops an old n c loops)
  (J: ∀a,To (aS (eN E.r)) tab tbl loops an fn E.a E.r a some=E.sh a):bE P f E:=
 ⟨by simp only[SG,yc]at M;exact M.1.1,Kq hn hm ht (λg=>yf1.2 λE hE=>(hT g E hE).1) (λg E hE=>(hT g E hE).2) hf O M H (N.ok K) J⟩
theorem bE.none{f:FuncId}{E:aE}(J:Pf E=true)(h: ∀a,E.sh a=none):bE P f E:=
 ⟨J,λa b H=>by rw[h]at H;cases H⟩
end
end Go.Ab
