import Derived.Test.YtjjjbgicidhpfaaDoorLib35
set_option linter.unusedVariables false
set_option linter.unusedSectionVars false
namespace Go.Ab
variable [cF]
variable {P:Program} {tab:TypeId->Option TI}
def y6:Sh->List (Option Bool)
 | .cons a b=>y6 a++y6 b
 | .bnone=> [none]
 | .bts _ _ _ _ _=> [some false]
 | .bcells _ _ _ _=> [some true]
 | .bos _ _ _ _=> [some false]
 |_=> []
theorem pZ: ∀(a b:aF),f8 (a++b)=f8 a++f8 b
 | [],_=>rfl
 |none::r,b=>congrArg (none:: ·) (pZ r b)
 |some _::r,b=>congrArg (_:: ·) (pZ r b)
theorem FV: ∀(s:Sh) (d:s.den),f8 (gX s d)=y6 s:=by
 intro s
 induction s with
 |cons a b H J=>intro d;show f8 (gX a _++gX b _)=_;rw[pZ,H,J];rfl
 |_=>intro d;rfl
noncomputable def Jc(f:Func):Code:=match f.body with|some c=>c|none=> .skip
noncomputable def RF(b:Nat)(c:Code):Code:=match dB b (fK c 0)with|some c=>c|none=> .skip
def SA(b:Nat)(an:nB):List Nat:=match dB b an.live with|some l=>l|none=> []
def D7:List (Nat×aE)->FuncId->List aE
 | []=>λ_=> []
 |q::l=>λf=>bif Nat.beq f q.1 then q.2::D7 l f else D7 l f
def TL(P:Program)(l:List (Nat×aE)):Prop:= ∀q∈l,bE P q.1 q.2
theorem TL.e:TL P []:=λ_ h=>by cases h
theorem TL.k{g:Nat}{E:aE}{l:List (Nat×aE)}(h:bE P g E)(r:TL P l):TL P ((g,E)::l):=λq H=>by
 rcases yj1.1 H with rfl|H
 ·exact h
 ·exact r q H
theorem TL.ok: ∀{l:List (Nat×aE)},TL P l->Es P (D7 l)
 | [],_,_,_,h=>by cases h
 |q::l,J,f,E,h=>by
  have hr:TL P l:=λx K=>J x (yj _ K);simp only[D7]at h;cases H:Nat.beq f q.1 with
  |true=>
   rw[H]at h;rcases yj1.1 h with rfl|h
   ·obtain rfl:=nb.1 H;exact J q yn
   ·exact hr.ok f E h
  |false=>rw[H]at h;exact hr.ok f E h
section
variable {tbl:FuncId->List aE} {loops:Nat->Option aT} {an:nB} {old:List (Option Bool)} {n:Nat} {c:Code}
def LF(tab:TypeId->Option TI)(tbl:FuncId->List aE)(loops:Nat->Option aT)(an:nB)(old:List (Option Bool))(n:Nat)(c:Code)(b:Nat)(L:aT):Prop:=
 ∃B:eN L.heads->Option (eN L.heads⊕eN L.outs),(∀s,L.run s=aY B n s)/\∀s,Cr (aS _) tab tbl loops an old (RF b c) b (SA b an) L.heads L.outs s some=B s
def LS(tab:TypeId->Option TI)(tbl:FuncId->List aE)(loops:Nat->Option aT)(an:nB)(old:List (Option Bool))(n:Nat)(c:Code)(l:List (Nat×aT)):Prop:= ∀q∈l,LF tab tbl loops an old n c q.1 q.2
theorem LS.e:LS tab tbl loops an old n c []:=λ_ h=>by cases h
theorem LS.k{b:Nat}{L:aT}{l:List (Nat×aT)}{B:eN L.heads->Option (eN L.heads⊕eN L.outs)}(h: ∀s,L.run s=aY B n s)
  (g: ∀s,Cr (aS _) tab tbl loops an old (RF b c) b (SA b an) L.heads L.outs s some=B s) (r:LS tab tbl loops an old n c l):LS tab tbl loops an old n c ((b,L)::l):=λq H=>by
 rcases yj1.1 H with rfl|H
 ·exact⟨B,h,g⟩
 ·exact r q H
theorem Ck{α:Type}: ∀{l:List (Nat×α)} {b:Nat} {x:α},dB b l=some x->(b,x)∈l
 | [],_,_,h=>by cases h
 |p::l,b,x,h=>by
  have H:(bif Nat.beq p.1 b then some p.2 else dB b l)=some x:=h;cases J:Nat.beq p.1 b with
  |true=>rw[J]at H;obtain rfl:=nb.1 J;obtain rfl:=ya H;exact yn
  |false=>rw[J]at H;exact yj _ (Ck H)
def PU(an:nB):List (Nat×aT)->Bool
 | []=>true
 |q::l=>(match dB q.1 an.live with|some l=>dR 0 l|none=>false)&&PU an l
theorem LS.lt: ∀{l:List (Nat×aT)},PU an l=true->LS tab tbl loops an old n c l->LT tab tbl loops an old n c λb=>dB b l:=by
 intro l hc h b L hL c' J;have hm:=Ck hL;have U: ∀{l:List (Nat×aT)},PU an l=true->∀q∈l,∃x,dB q.1 an.live=some x/\dR 0 x=true:=by
  intro l
  induction l with
  |nil=>intro _ q H;cases H
  |cons p l V=>
   intro hc q H;simp only[PU,yc]at hc;rcases yj1.1 H with rfl|H
   ·cases M:dB q.1 an.live with
    |none=>rw[M]at hc;cases hc.1
    |some x=>rw[M]at hc;exact⟨x,rfl,hc.1⟩
   ·exact V hc.2 q H
 obtain⟨x,K,N⟩:=U hc _ hm;obtain⟨B,W,O⟩:=h _ hm;refine⟨x,B,K,N,W,λs=>?_⟩;have:=O s;simp only[RF,SA]at this;rw[J,K]at this;exact this
end
def SS(fn:Func)(an:nB)(E:aE)(ls:List (Nat×aT)):Bool:=
 (match fn.body with|some c=>SG fn c E&&dY ((fK c 0).map (·.1))|none=>false)&&PU an ls
structure Vl (P:Program) (tab:TypeId->Option TI):Prop where
 hn:pU P=true
 hm:P.follows .mixedOrders=true
 ht:bT P tab
section
variable {fn:Func} {f:FuncId} {E:aE} {l:List (Nat×aE)}
theorem Pa{an:nB}{ls:List (Nat×aT)}(hc:SS fn an E ls=true):fn.body=some (Jc fn)/\SG fn (Jc fn) E=true/\dY ((fK (Jc fn) 0).map (·.1))=true/\PU an ls=true:=by
 simp only[SS,yc]at hc;unfold Jc;cases H:fn.body with
 |none=>rw[H]at hc;cases hc.1
 |some c=>
  rw[H]at hc;simp only[yc]at hc;exact⟨rfl,hc.1.1,hc.1.2,hc.2⟩
theorem bE.b(n:Nat)(J:Vl P tab)(fn:Func)(an:nB)(ls:List (Nat×aT))(hT:TL P l)(K:LS tab (D7 l) (λb=>dB b ls) an (y6 E.a.msh) n (Jc fn) ls)
  (hf:P.funcs[f]?=some fn) (hc:SS fn an E ls=true) (H: ∀a,To (aS (eN E.r)) tab (D7 l) (λb=>dB b ls) an fn E.a E.r a some=E.sh a):bE P f E:=
 have h:=Pa hc
 .of J.hn J.hm J.ht hT.ok hf h.1 h.2.1 h.2.2.1 (λ_=>FV _ _) (K.lt h.2.2.2) H
theorem bE.bS(n:Nat)(J:Vl P tab)(fn:Func)(an:nB)(ls:List (Nat×aT))(hT:TL P l)(K:LS tab (D7 l) (λb=>dB b ls) an (y6 E.a.msh) n (Jc fn) ls)
  (hf:P.funcs[f]?=some fn) (hc:SS fn an E ls=true) (H: ∀a,Pt (aS (eN E.r)) tab (D7 l) (λb=>dB b ls) an fn (y6 E.a.msh).length E.a E.r a some=E.sh a):bE P f E:=
 have h:=Pa hc
 .ofS J.hn J.hm J.ht hT.ok hf h.1 h.2.1 h.2.2.1 (λ_=>FV _ _) (K.lt h.2.2.2) H
end
abbrev u1(a:Sh):Sh:= .cons a .nil
abbrev u2(a b:Sh):Sh:= .cons a (u1 b)
abbrev u3(a b c:Sh):Sh:= .cons a (u2 b c)
abbrev u4(a b c d:Sh):Sh:= .cons a (u3 b c d)
abbrev u5(a b c d e:Sh):Sh:= .cons a (u4 b c d e)
abbrev u6(a b c d e f:Sh):Sh:= .cons a (u5 b c d e f)
abbrev u7(a b c d e f g:Sh):Sh:= .cons a (u6 b c d e f g)
abbrev u8(a b c d e f g h:Sh):Sh:= .cons a (u7 b c d e f g h)
abbrev u9(a b c d e f g h i:Sh):Sh:= .cons a (u8 b c d e f g h i)
abbrev SN(l:List Nat)(s m:Sh):mT:=⟨.normal,l,s,m⟩
abbrev SY(l:List Nat)(s m:Sh):mT:=⟨.ret,l,s,m⟩
abbrev SX(k:Nat)(l:List Nat)(s m:Sh):mT:=⟨.exit k,l,s,m⟩
end Go.Ab
