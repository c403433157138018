import Derived.Test.YtjjjbgicidhpfaaDoorLib34
set_option linter.unusedVariables false
set_option linter.unusedSectionVars false
namespace Go.Ab
variable [b3]
variable {P:Program} {tab:TypeId->Option TI}
def sR:Sh->List (Option Bool)
 | .cons a b=>sR a++sR b
 | .bnone=> [none]
 | .bts _ _ _ _ _=> [some false]
 | .bcells _ _ _ _=> [some true]
 | .bos _ _ _ _=> [some false]
 |_=> []
theorem nM: ∀(a b:aE),eV (a++b)=eV a++eV b
 | [],_=>rfl
 |none::r,b=>congrArg (none:: ·) (nM r b)
 |some _::r,b=>congrArg (_:: ·) (nM r b)
theorem Fs: ∀(s:Sh) (d:s.den),eV (fM s d)=sR s:=by
 intro s
 induction s with
 |cons a b H I=>intro d;show eV (fM a _++fM b _)=_;rw[nM,H,I];rfl
 |_=>intro d;rfl
noncomputable def FM(f:Func):Code:=match f.body with|some c=>c|none=> .skip
noncomputable def Nm(b:Nat)(c:Code):Code:=match cP b (eK c 0)with|some c=>c|none=> .skip
def M0(b:Nat)(an:kQ):List Nat:=match cP b an.live with|some l=>l|none=> []
def B8:List (Nat×aD)->FuncId->List aD
 | []=>λ_=> []
 |q::l=>λf=>bif Nat.beq f q.1 then q.2::B8 l f else B8 l f
def TL(P:Program)(l:List (Nat×aD)):Prop:= ∀q∈l,bC P q.1 q.2
theorem TL.e:TL P []:=λ_ h=>by cases h
theorem TL.k{g:Nat}{E:aD}{l:List (Nat×aD)}(h:bC P g E)(r:TL P l):TL P ((g,E)::l):=λq H=>by
 rcases yl1.1 H with rfl|H
 ·exact h
 ·exact r q H
theorem TL.ok: ∀{l:List (Nat×aD)},TL P l->BD P (B8 l)
 | [],_,_,_,h=>by cases h
 |q::l,I,f,E,h=>by
  have hr:TL P l:=λx J=>I x (yg _ J);simp only[B8]at h;cases H:Nat.beq f q.1 with
  |true=>
   rw[H]at h;rcases yl1.1 h with rfl|h
   ·obtain rfl:=nb.1 H;exact I q ym
   ·exact hr.ok f E h
  |false=>rw[H]at h;exact hr.ok f E h
section
variable {tbl:FuncId->List aD} {loops:Nat->Option aT} {an:kQ} {old:List (Option Bool)} {n:Nat} {c:Code}
def LF(tab:TypeId->Option TI)(tbl:FuncId->List aD)(loops:Nat->Option aT)(an:kQ)(old:List (Option Bool))(n:Nat)(c:Code)(b:Nat)(L:aT):Prop:=
 ∃B:dV L.heads->Option (dV L.heads⊕dV L.outs),(∀s,L.run s=b8 B n s)/\∀s,A1 (aQ _) tab tbl loops an old (Nm b c) b (M0 b an) L.heads L.outs s some=B s
def LS(tab:TypeId->Option TI)(tbl:FuncId->List aD)(loops:Nat->Option aT)(an:kQ)(old:List (Option Bool))(n:Nat)(c:Code)(l:List (Nat×aT)):Prop:= ∀q∈l,LF tab tbl loops an old n c q.1 q.2
theorem LS.e:LS tab tbl loops an old n c []:=λ_ h=>by cases h
theorem LS.k{b:Nat}{L:aT}{l:List (Nat×aT)}{B:dV L.heads->Option (dV L.heads⊕dV L.outs)}(h: ∀s,L.run s=b8 B n s)
  (g: ∀s,A1 (aQ _) tab tbl loops an old (Nm b c) b (M0 b an) L.heads L.outs s some=B s) (r:LS tab tbl loops an old n c l):LS tab tbl loops an old n c ((b,L)::l):=λq H=>by
 rcases yl1.1 H with rfl|H
 ·exact⟨B,h,g⟩
 ·exact r q H
theorem y3{α:Type}: ∀{l:List (Nat×α)} {b:Nat} {x:α},cP b l=some x->(b,x)∈l
 | [],_,_,h=>by cases h
 |p::l,b,x,h=>by
  have H:(bif Nat.beq p.1 b then some p.2 else cP b l)=some x:=h;cases I:Nat.beq p.1 b with
  |true=>rw[I]at H;obtain rfl:=nb.1 I;obtain rfl:=ya H;exact ym
  |false=>rw[I]at H;exact yg _ (y3 H)
def LH(an:kQ):List (Nat×aT)->Bool
 | []=>true
 |q::l=>(match cP q.1 an.live with|some l=>c9 0 l|none=>false)&&LH an l
theorem LS.lt: ∀{l:List (Nat×aT)},LH an l=true->LS tab tbl loops an old n c l->LT tab tbl loops an old n c λb=>cP b l:=by
 intro l H h b L hL c' J;have hm:=y3 hL;have W: ∀{l:List (Nat×aT)},LH an l=true->∀q∈l,∃x,cP q.1 an.live=some x/\c9 0 x=true:=by
  intro l
  induction l with
  |nil=>intro _ q I;cases I
  |cons p l N=>
   intro H q I;simp only[LH,yb]at H;rcases yl1.1 I with rfl|I
   ·cases K:cP q.1 an.live with
    |none=>rw[K]at H;cases H.1
    |some x=>rw[K]at H;exact⟨x,rfl,H.1⟩
   ·exact N H.2 q I
 obtain⟨x,M,U⟩:=W H _ hm;obtain⟨B,O,V⟩:=h _ hm;refine⟨x,B,M,U,O,λs=>?_⟩;have:=V s;simp only[Nm,M0]at this;rw[J,M]at this;exact this
end
def N3(fn:Func)(an:kQ)(E:aD)(ls:List (Nat×aT)):Bool:=
 (match fn.body with|some c=>NT fn c E&&dB ((eK c 0).map (·.1))|none=>false)&&LH an ls
structure Qc (P:Program) (tab:TypeId->Option TI):Prop where
 hn:mQ P=true
 hm:P.follows .mixedOrders=true
 ht:bL P tab
section
variable {fn:Func} {f:FuncId} {E:aD} {l:List (Nat×aD)}
theorem KW{an:kQ}{ls:List (Nat×aT)}(H:N3 fn an E ls=true):fn.body=some (FM fn)/\NT fn (FM fn) E=true/\dB ((eK (FM fn) 0).map (·.1))=true/\LH an ls=true:=by
 simp only[N3,yb]at H;unfold FM;cases I:fn.body with
 |none=>rw[I]at H;cases H.1
 |some c=>
  rw[I]at H;simp only[yb]at H;exact⟨rfl,H.1.1,H.1.2,H.2⟩
theorem bC.b(n:Nat)(I:Qc P tab)(fn:Func)(an:kQ)(ls:List (Nat×aT))(hT:TL P l)(M:LS tab (B8 l) (λb=>cP b ls) an (sR E.a.msh) n (FM fn) ls)
  (J:P.funcs[f]?=some fn) (K:N3 fn an E ls=true) (H: ∀a,NW (aQ (dV E.r)) tab (B8 l) (λb=>cP b ls) an fn E.a E.r a some=E.sh a):bC P f E:=
 have h:=KW K
 .of I.hn I.hm I.ht hT.ok J h.1 h.2.1 h.2.2.1 (λ_=>Fs _ _) (M.lt h.2.2.2) H
theorem bC.bS(n:Nat)(I:Qc P tab)(fn:Func)(an:kQ)(ls:List (Nat×aT))(hT:TL P l)(M:LS tab (B8 l) (λb=>cP b ls) an (sR E.a.msh) n (FM fn) ls)
  (J:P.funcs[f]?=some fn) (K:N3 fn an E ls=true) (H: ∀a,LA (aQ (dV E.r)) tab (B8 l) (λb=>cP b ls) an fn (sR E.a.msh).length E.a E.r a some=E.sh a):bC P f E:=
 have h:=KW K
 .ofS I.hn I.hm I.ht hT.ok J h.1 h.2.1 h.2.2.1 (λ_=>Fs _ _) (M.lt h.2.2.2) H
end
abbrev u1(a:Sh):Sh:= .cons a .nil
abbrev u2(a b:Sh):Sh:= .cons a (u1 b)
abbrev u3(a b c:Sh):Sh:= .cons a (u2 b c)
abbrev u4(a b c d:Sh):Sh:= .cons a (u3 b c d)
abbrev u5(a b c d e:Sh):Sh:= .cons a (u4 b c d e)
abbrev u6(a b c d e f:Sh):Sh:= .cons a (u5 b c d e f)
abbrev u7(a b c d e f g:Sh):Sh:= .cons a (u6 b c d e f g)
abbrev u8(a b c d e f g h:Sh):Sh:= .cons a (u7 b c d e f g h)
abbrev SN(l:List Nat)(s m:Sh):kN:=⟨.normal,l,s,m⟩
abbrev SY(l:List Nat)(s m:Sh):kN:=⟨.ret,l,s,m⟩
abbrev SX(k:Nat)(l:List Nat)(s m:Sh):kN:=⟨.exit k,l,s,m⟩
end Go.Ab
