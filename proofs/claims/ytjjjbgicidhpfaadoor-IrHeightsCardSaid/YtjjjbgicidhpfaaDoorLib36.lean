import Derived.Test.YtjjjbgicidhpfaaDoorLib35
set_option linter.unusedVariables false
set_option linter.unusedSectionVars false
namespace Go.Ab
variable [cS]
variable {P:Program} {tab:TypeId->Option TI}
def AE:Sh->List (Option Bool)
 | .cons a b=>AE a++AE b
 | .bnone=> [none]
 | .bts _ _ _ _ _=> [some false]
 | .bcells _ _ _ _=> [some true]
 | .bos _ _ _ _=> [some false]
 |_=> []
theorem rU: ∀(a b:aH),iD (a++b)=iD a++iD b
 | [],_=>rfl
 |none::r,b=>congrArg (none:: ·) (rU r b)
 |some _::r,b=>congrArg (_:: ·) (rU r b)
theorem I4: ∀(s:Sh) (d:s.den),iD (jC s d)=AE s:=by
 intro s
 induction s with
 |cons a b H J=>intro d;show iD (jC a _++jC b _)=_;rw[rU,H,J];rfl
 |_=>intro d;rfl
noncomputable def KC(f:Func):Code:=match f.body with|some c=>c|none=> .skip
noncomputable def TB(b:Nat)(c:Code):Code:=match dS b (gK c 0)with|some c=>c|none=> .skip
def TJ(b:Nat)(an:o5):List Nat:=match dS b an.live with|some l=>l|none=> []
def F5:List (Nat×aG)->FuncId->List aG
 | []=>λ_=> []
 |q::l=>λf=>bif Nat.beq f q.1 then q.2::F5 l f else F5 l f
def TL(P:Program)(l:List (Nat×aG)):Prop:= ∀q∈l,a6 P q.1 q.2
theorem TL.e:TL P []:=λ_ h=>by cases h
theorem TL.k{g:Nat}{E:aG}{l:List (Nat×aG)}(h:a6 P g E)(r:TL P l):TL P ((g,E)::l):=λq H=>by
 rcases yk1.1 H with rfl|H
 ·exact h
 ·exact r q H
theorem TL.ok: ∀{l:List (Nat×aG)},TL P l->Ge P (F5 l)
 | [],_,_,_,h=>by cases h
 |q::l,J,f,E,h=>by
  have hr:TL P l:=λx K=>J x (yk _ K);simp only[F5]at h;cases H:Nat.beq f q.1 with
  |true=>
   rw[H]at h;rcases yk1.1 h with rfl|h
   ·obtain rfl:=nb.1 H;exact J q yn
   ·exact hr.ok f E h
  |false=>rw[H]at h;exact hr.ok f E h
section
variable {tbl:FuncId->List aG} {loops:Nat->Option aQ} {an:o5} {old:List (Option Bool)} {n:Nat} {c:Code}
def LF(tab:TypeId->Option TI)(tbl:FuncId->List aG)(loops:Nat->Option aQ)(an:o5)(old:List (Option Bool))(n:Nat)(c:Code)(b:Nat)(L:aQ):Prop:=
 ∃B:fG L.heads->Option (fG L.heads⊕fG L.outs),(∀s,L.run s=aM B n s)/\∀s,Fu (aZ _) tab tbl loops an old (TB b c) b (TJ b an) L.heads L.outs s some=B s
def LS(tab:TypeId->Option TI)(tbl:FuncId->List aG)(loops:Nat->Option aQ)(an:o5)(old:List (Option Bool))(n:Nat)(c:Code)(l:List (Nat×aQ)):Prop:= ∀q∈l,LF tab tbl loops an old n c q.1 q.2
theorem LS.e:LS tab tbl loops an old n c []:=λ_ h=>by cases h
theorem LS.k{b:Nat}{L:aQ}{l:List (Nat×aQ)}{B:fG L.heads->Option (fG L.heads⊕fG L.outs)}(h: ∀s,L.run s=aM B n s)
  (g: ∀s,Fu (aZ _) tab tbl loops an old (TB b c) b (TJ b an) L.heads L.outs s some=B s) (r:LS tab tbl loops an old n c l):LS tab tbl loops an old n c ((b,L)::l):=λq H=>by
 rcases yk1.1 H with rfl|H
 ·exact⟨B,h,g⟩
 ·exact r q H
theorem CV{α:Type}: ∀{l:List (Nat×α)} {b:Nat} {x:α},dS b l=some x->(b,x)∈l
 | [],_,_,h=>by cases h
 |p::l,b,x,h=>by
  have H:(bif Nat.beq p.1 b then some p.2 else dS b l)=some x:=h;cases J:Nat.beq p.1 b with
  |true=>rw[J]at H;obtain rfl:=nb.1 J;obtain rfl:=yb H;exact yn
  |false=>rw[J]at H;exact yk _ (CV H)
def Sl(an:o5):List (Nat×aQ)->Bool
 | []=>true
 |q::l=>(match dS q.1 an.live with|some l=>eG 0 l|none=>false)&&Sl an l
theorem LS.lt: ∀{l:List (Nat×aQ)},Sl an l=true->LS tab tbl loops an old n c l->LT tab tbl loops an old n c λb=>dS b l:=by
 intro l hc h b L hL c' J;have hm:=CV hL;have V: ∀{l:List (Nat×aQ)},Sl an l=true->∀q∈l,∃x,dS q.1 an.live=some x/\eG 0 x=true:=by
  intro l
  induction l with
  |nil=>intro _ q H;cases H
  |cons p l W=>
   intro hc q H;simp only[Sl,yc]at hc;rcases yk1.1 H with rfl|H
   ·cases M:dS q.1 an.live with
    |none=>rw[M]at hc;cases hc.1
    |some x=>rw[M]at hc;exact⟨x,rfl,hc.1⟩
   ·exact W hc.2 q H
 obtain⟨x,K,N⟩:=V hc _ hm;obtain⟨B,U,O⟩:=h _ hm;refine⟨x,B,K,N,U,λs=>?_⟩;have:=O s;simp only[TB,TJ]at this;rw[J,K]at this;exact this
end
def UQ(fn:Func)(an:o5)(E:aG)(ls:List (Nat×aQ)):Bool:=
 (match fn.body with|some c=>UC fn c E&&eN ((gK c 0).map (·.1))|none=>false)&&Sl an ls
structure W5 (P:Program) (tab:TypeId->Option TI):Prop where
 hn:rF P=true
 hm:P.follows .mixedOrders=true
 ht:b9 P tab
section
variable {fn:Func} {f:FuncId} {E:aG} {l:List (Nat×aG)}
theorem Q0{an:o5}{ls:List (Nat×aQ)}(hc:UQ fn an E ls=true):fn.body=some (KC fn)/\UC fn (KC fn) E=true/\eN ((gK (KC fn) 0).map (·.1))=true/\Sl an ls=true:=by
 simp only[UQ,yc]at hc;unfold KC;cases H:fn.body with
 |none=>rw[H]at hc;cases hc.1
 |some c=>
  rw[H]at hc;simp only[yc]at hc;exact⟨rfl,hc.1.1,hc.1.2,hc.2⟩
theorem a6.b(n:Nat)(J:W5 P tab)(fn:Func)(an:o5)(ls:List (Nat×aQ))(hT:TL P l)(K:LS tab (F5 l) (λb=>dS b ls) an (AE E.a.msh) n (KC fn) ls)
  (hf:P.funcs[f]?=some fn) (hc:UQ fn an E ls=true) (H: ∀a,US (aZ (fG E.r)) tab (F5 l) (λb=>dS b ls) an fn E.a E.r a some=E.sh a):a6 P f E:=
 have h:=Q0 hc
 .of J.hn J.hm J.ht hT.ok hf h.1 h.2.1 h.2.2.1 (λ_=>I4 _ _) (K.lt h.2.2.2) H
theorem a6.bS(n:Nat)(J:W5 P tab)(fn:Func)(an:o5)(ls:List (Nat×aQ))(hT:TL P l)(K:LS tab (F5 l) (λb=>dS b ls) an (AE E.a.msh) n (KC fn) ls)
  (hf:P.funcs[f]?=some fn) (hc:UQ fn an E ls=true) (H: ∀a,QO (aZ (fG E.r)) tab (F5 l) (λb=>dS b ls) an fn (AE E.a.msh).length E.a E.r a some=E.sh a):a6 P f E:=
 have h:=Q0 hc
 .ofS J.hn J.hm J.ht hT.ok hf h.1 h.2.1 h.2.2.1 (λ_=>I4 _ _) (K.lt h.2.2.2) H
end
abbrev u1(a:Sh):Sh:= .cons a .nil
abbrev u2(a b:Sh):Sh:= .cons a (u1 b)
abbrev u3(a b c:Sh):Sh:= .cons a (u2 b c)
abbrev u4(a b c d:Sh):Sh:= .cons a (u3 b c d)
abbrev u5(a b c d e:Sh):Sh:= .cons a (u4 b c d e)
abbrev u6(a b c d e f:Sh):Sh:= .cons a (u5 b c d e f)
abbrev u7(a b c d e f g:Sh):Sh:= .cons a (u6 b c d e f g)
abbrev u8(a b c d e f g h:Sh):Sh:= .cons a (u7 b c d e f g h)
abbrev u9(a b c d e f g h i:Sh):Sh:= .cons a (u8 b c d e f g h i)
abbrev SN(l:List Nat)(s m:Sh):oU:=⟨.normal,l,s,m⟩
abbrev SY(l:List Nat)(s m:Sh):oU:=⟨.ret,l,s,m⟩
abbrev SX(k:Nat)(l:List Nat)(s m:Sh):oU:=⟨.exit k,l,s,m⟩
end Go.Ab
