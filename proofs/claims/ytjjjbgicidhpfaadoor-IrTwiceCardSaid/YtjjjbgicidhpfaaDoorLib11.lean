import Derived.Test.YtjjjbgicidhpfaaDoorLib7
set_option linter.unusedVariables false
set_option linter.unusedSectionVars false
set_option linter.unusedSimpArgs false
namespace Go.Ab
variable [cF]
theorem FJ{α β:Type}{x:Option α}{f:α->Option β}{y:β}:x.bind f=some y↔∃a,x=some a/\f a=some y:=yy1
theorem eK{α:Type}{c:Bool}{x:Option α}{y:α}:guardB c x=some y↔c=true/\x=some y:=by cases c<;>simp[guardB]
theorem bZ{α:Type}{c:Bool}{x:Option α}{y:α}:(bif c then x else none)=some y↔c=true/\x=some y:=by cases c<;>simp
theorem nb{a b:Nat}:Nat.beq a b=true↔a=b:=⟨Nat.eq_of_beq_eq_true,λh=>by subst h;exact yg3 a⟩
theorem nl{a b:Nat}:Nat.ble a b=true↔a≤b:=by rw[Nat.ble_eq]
theorem vO{a b:IntKind}:iK a b=true↔a=b:=by cases a<;>cases b<;>simp[iK]
theorem KO{a b:Bool}:eP a b=true↔a=b:=by cases a<;>cases b<;>simp[eP]
theorem Ty.beq_iff{a b:Ty}:Ty.beq a b=true↔a=b:=by
 refine⟨Ty.eq_of_beq,λh=>?_⟩;subst h
 induction a with
 |int k=>exact vO.2 rfl
 |bool=>rfl
 |str=>rfl
 |sl ag T K=>simp[Ty.beq,pA,K,KO.2]
 |cons a b H J=>simp[Ty.beq,pA,H,J]
section
variable {R:Type}
@[simp] theorem real_ite (c:Bool) (a b:Option R):(aS R).ite c a b=cond c a b:=rfl
@[simp] theorem real_guard (c:Bool) (a:Option R):(aS R).guard c a=cond c a none:=rfl
@[simp] theorem real_get {α:Type} (xs:List α) (i:Int) (k:α->Option R):(aS R).get xs i k=(aM xs i).bind k:=rfl
@[simp] theorem real_getN {α:Type} (xs:List α) (i:Nat) (k:α->Option R):(aS R).getN xs i k=(xs[i]?).bind k:=rfl
end
theorem oH{F:Ty->Type}{a b:Ty}{c:Bool}{hc:Ty.beq a b=c}{x:F a}{y:F b}(h:IL (F:=F) c hc x=some y): ∃e:a=b,e ▸ x=y:=by
 cases c with
 |true=>exact⟨Ty.eq_of_beq hc,ya h⟩
 |false=>cases h
theorem eA{a b:Ty}{x:List (den a)}{y:List (den b)}(h:q9 a b x=some y): ∃e:a=b,e ▸ x=y:=oH (F:=λT=>List (den T)) h
abbrev iQ:Bool->Ty->Bool:=a6
def jB(ag:Bool)(cs:List PV):PV:=
 match ag,cs with
 |false,[c]=>c
 |_,cs=> .agg cs
noncomputable def KS(ag:Bool):(T:Ty)->(den T->List PV)->List (den T)->PV
 | .int k,f,xs=>bif ag then .sl 1 (xs.map λx=>jB ag (f x))else .ints k xs
 | .bool,f,xs=> .sl 1 (xs.map λx=>jB ag (f x))
 | .str,f,xs=> .sl 1 (xs.map λx=>jB ag (f x))
 | .sl g T,f,xs=> .sl 1 (xs.map λx=>jB ag (f x))
 | .cons a b,f,xs=> .sl (a.size+b.size) (xs.map λx=>jB ag (f x))
noncomputable def aQ:(T:Ty)->den T->List PV
 | .int k,x=> [.lit (.int k x)]
 | .bool,x=> [.lit (.bool x)]
 | .str,x=> [.lit (.string x)]
 | .sl ag T,xs=> [KS ag T (aQ T) xs]
 | .cons a b,x=>aQ a (Prod.fst x)++aQ b (Prod.snd x)
noncomputable def cR(ag:Bool)(T:Ty)(x:den T):PV:=jB ag (aQ T x)
noncomputable def dS(ag:Bool)(T:Ty)(xs:List (den T)):PV:=KS ag T (aQ T) xs
theorem Qs{k:IntKind}{xs:List Int}:dS false (.int k) xs= .ints k xs:=rfl
theorem cB{ag:Bool}{T:Ty}(h:iQ ag T=false)(xs:List (den T)):dS ag T xs= .sl T.size (xs.map (cR ag T)):=by
 cases T with
 |int k=>cases ag with
  |false=>cases h
  |true=>rfl
 |bool=>rfl
 |str=>rfl
 |sl g T=>rfl
 |cons a b=>rfl
theorem aO{ag:Bool}{T:Ty}:iQ ag T=true↔ag=false/\∃k,T= .int k:=by
 cases T<;>cases ag<;>simp[iQ,a6]
theorem bV: ∀{T:Ty} {x:den T},(aQ T x).length=T.size
 | .int k,x=>rfl
 | .bool,x=>rfl
 | .str,x=>rfl
 | .sl ag T,xs=>rfl
 | .cons a b,x=>by simp only[aQ,yi,bV];rfl
theorem Ty.size_pos: ∀{T:Ty},1≤T.size
 | .int k=>ya1 _
 | .bool=>ya1 _
 | .str=>ya1 _
 | .sl ag T=>ya1 _
 | .cons a b=>yq2 (Ty.size_pos (T:=a)) (Nat.le_add_right _ _)
def BM:PV->Bool
 | .agg _=>false
 |_=>true
theorem x6(ag:Bool)(T:Ty)(xs:List (den T)):BM (dS ag T xs)=true:=by
 cases T with
 |int k=>cases ag<;>rfl
 |bool=>rfl
 |str=>rfl
 |sl g T=>rfl
 |cons a b=>rfl
theorem oQ: ∀{T:Ty} {x:den T} {p:PV},p∈aQ T x->BM p=true
 | .int k,x,p,h=>by simp only[aQ,yh1]at h;subst h;rfl
 | .bool,x,p,h=>by simp only[aQ,yh1]at h;subst h;rfl
 | .str,x,p,h=>by simp only[aQ,yh1]at h;subst h;rfl
 | .sl ag T,xs,p,h=>by simp only[aQ,yh1]at h;subst h;exact x6 ag T xs
 | .cons a b,x,p,h=>by
  simp only[aQ,yn1]at h;exact h.elim (λh=>oQ h) (λh=>oQ h)
theorem Fm{p:PV}(h:BM p=true):p.cells= [p]:=by cases p<;>first|rfl|cases h
theorem HC{ag:Bool}{cs:List PV}(h: ∀p∈cs,BM p=true):(jB ag cs).cells=cs:=by
 unfold jB;split
 ·exact Fm (h _ (by simp))
 ·rfl
theorem cG{ag:Bool}{T:Ty}{x:den T}:(cR ag T x).cells=aQ T x:=HC λp H=>oQ H
mutual
noncomputable def KV.down:KV->AV
 | .lit v=> .lit v
 | .tsl β ag T xs=> .imm β (dS ag T xs)
 | .el β ag T x c=> .el β (cR ag T x) c
 | .ptr b g i c=> .ptr b g i c
 | .ms b g o n=> .ms b g o n
 | .msw b g=> .msw b g
 | .fn f fi ca=> .fn f (KV.downs fi) (KV.downs ca)
 | .agg cs=> .agg (KV.downs cs)
 | .tup vs=> .tup (KV.downs vs)
 | .dead=>AV.dead
 | .gone=>AV.goneV
 | .unkB=>AV.unkB
noncomputable def KV.downs:List KV->List AV
 | []=> []
 |v::r=>v.down::KV.downs r
end
theorem cQ: ∀vs:List KV,KV.downs vs=vs.map KV.down
 | []=>rfl
 |v::r=>by simp[KV.downs,cQ r]
theorem Jg(T:Ty):iQ (fB T) T=false:=by cases T<;>rfl
noncomputable def bB:c7->List (Nat×Nat×AV)
 | []=> []
 |h::r=>(h.1,h.2.1,h.2.2.down)::bB r
noncomputable def KRow.down:KRow->aZ
 | .ts β ag T xs=>match dS ag T xs with
  | .ints k ys=> .ints k ys
  | .sl e ys=> .pvs β e ys
  |_=> .pvs β 1 []
 | .cells e cs=> .cells e (KV.downs cs)
 | .os T xs hs=> .own T.size (xs.map (cR (fB T) T)) (bB hs)
noncomputable def KRow.view:KRow->aL
 | .ts β ag T xs=>match dS ag T xs with
  | .ints k ys=> .ints k ys
  | .sl e ys=> .pvs β e ys
  |_=> .pvs β 1 []
 | .cells e cs=> .avs e (KV.downs cs)
 | .os T xs hs=> .pvs true T.size (xs.map (cR (fB T) T))
noncomputable def dE.down(x:dE):bK:={gen:=x.gen,frz:=x.frz,row:=x.row.down}
noncomputable def aB(mem:aF):aK:=mem.map λx=>x.map dE.down
noncomputable def bC.down(o:bC):dI:={v:=o.v.down,rd:=o.rd,wr:=o.wr.map λq=>(q.1,q.2.down),push:=aB o.push}
theorem KRow.down_ints{β:Bool}{k:IntKind}{xs:List Int}:(KRow.ts β false (.int k) xs).down= .ints k xs:=rfl
theorem KRow.down_sl{β ag:Bool}{T:Ty}{xs:List (den T)}(h:iQ ag T=false):(KRow.ts β ag T xs).down= .pvs β T.size (xs.map (cR ag T)):=by
 simp only[KRow.down,cB h]
theorem KRow.view_sl{β ag:Bool}{T:Ty}{xs:List (den T)}(h:iQ ag T=false):(KRow.ts β ag T xs).view= .pvs β T.size (xs.map (cR ag T)):=by
 simp only[KRow.view,cB h]
theorem KRow.tsCases{P:Bool->Bool->(T:Ty)->List (den T)->Prop}(H: ∀β k (xs:List Int),P β false (.int k) xs)(hs: ∀β ag T xs,iQ ag T=false->P β ag T xs)(β ag:Bool)(T:Ty)(xs:List (den T)):P β ag T xs:=by
 cases h:iQ ag T with
 |false=>exact hs β ag T xs h
 |true=>
  obtain⟨rfl,k,rfl⟩:=aO.1 h;exact H β k xs
theorem HJ(r:KRow)(H:iX r=false):r.view.row=r.down:=by
 cases r with
 |os=>cases H
 |cells e cs=>rfl
 |ts β ag T xs=>
  refine KRow.tsCases (P:=fun β ag T xs=>(KRow.ts β ag T xs).view.row=(KRow.ts β ag T xs).down) (fun β k xs=>rfl) (fun β ag T xs h=>?_) β ag T xs;rw[KRow.view_sl h,KRow.down_sl h];rfl
theorem FM(r:KRow):r.down.all=r.view:=by
 cases r with
 |os=>rfl
 |cells e cs=>rfl
 |ts β ag T xs=>
  refine KRow.tsCases (P:=fun β ag T xs=>(KRow.ts β ag T xs).down.all=(KRow.ts β ag T xs).view) (fun β k xs=>rfl) (fun β ag T xs h=>?_) β ag T xs;rw[KRow.view_sl h,KRow.down_sl h];rfl
theorem Ad(r:KRow):r.down.e=qX r:=by
 cases r with
 |os=>rfl
 |cells e cs=>rfl
 |ts β ag T xs=>
  refine KRow.tsCases (P:=fun β ag T xs=>(KRow.ts β ag T xs).down.e=qX (KRow.ts β ag T xs)) (fun β k xs=>rfl) (fun β ag T xs h=>?_) β ag T xs;rw[KRow.down_sl h];rfl
theorem Ke(r:KRow):r.view.e=qX r:=by
 cases r with
 |os=>rfl
 |cells e cs=>rfl
 |ts β ag T xs=>
  refine KRow.tsCases (P:=fun β ag T xs=>(KRow.ts β ag T xs).view.e=qX (KRow.ts β ag T xs)) (fun β k xs=>rfl) (fun β ag T xs h=>?_) β ag T xs;rw[KRow.view_sl h];rfl
theorem aJ(cs:List KV):(KV.downs cs).length=cs.length:=by rw[cQ,yk1]
theorem pN(r:KRow):r.down.len=fD r:=by
 cases r with
 |os=>simp[KRow.down,aZ.len,fD]
 |cells e cs=>simp only[KRow.down,aZ.len,fD,aJ]
 |ts β ag T xs=>
  refine KRow.tsCases (P:=fun β ag T xs=>(KRow.ts β ag T xs).down.len=fD (KRow.ts β ag T xs)) (fun β k xs=>rfl) (fun β ag T xs h=>?_) β ag T xs;rw[KRow.down_sl h];simp[aZ.len,fD]
theorem wS(r:KRow):r.view.len=fD r:=by
 cases r with
 |os=>simp[KRow.view,aL.len,fD]
 |cells e cs=>simp only[KRow.view,aL.len,fD,aJ]
 |ts β ag T xs=>
  refine KRow.tsCases (P:=fun β ag T xs=>(KRow.ts β ag T xs).view.len=fD (KRow.ts β ag T xs)) (fun β k xs=>rfl) (fun β ag T xs h=>?_) β ag T xs;rw[KRow.view_sl h];simp[aL.len,fD]
theorem fT(r:KRow):r.down.isCells=jQ r:=by
 cases r with
 |os=>rfl
 |cells e cs=>rfl
 |ts β ag T xs=>
  refine KRow.tsCases (P:=fun β ag T xs=>(KRow.ts β ag T xs).down.isCells=jQ (KRow.ts β ag T xs)) (fun β k xs=>rfl) (fun β ag T xs h=>?_) β ag T xs;rw[KRow.down_sl h];rfl
theorem dM(r:KRow):r.down.isOwn=iX r:=by
 cases r with
 |os=>rfl
 |cells e cs=>rfl
 |ts β ag T xs=>
  refine KRow.tsCases (P:=fun β ag T xs=>(KRow.ts β ag T xs).down.isOwn=iX (KRow.ts β ag T xs)) (fun β k xs=>rfl) (fun β ag T xs h=>?_) β ag T xs;rw[KRow.down_sl h];rfl
theorem eW(mem:aF)(b:Nat):(aB mem)[b]?=(mem[b]?).map λx=>x.map dE.down:=by simp[aB]
theorem eG(mem:aF):(aB mem).length=mem.length:=by simp[aB]
theorem n7{mem:aF}{b:Nat}{x:dE}(h:eO mem b=some (some x)):(aB mem)[b]?=some (some x.down):=by
 rw[bA]at h;rw[eW,h];rfl
variable {R:Type} {r:R}
theorem cE{mem:aF}{b g:Nat}{k:dE->Option R}(h:oX mem b g k=some r): ∃x,box? (aB mem) b g=some x.down/\k x=some r:=by
 unfold oX at h;split at h
 ·rename_i x H;rw[bZ]at h;refine⟨x,?_,h.2⟩;unfold box?;rw[n7 H];simp only[dE.down,dM];rw[h.1];rfl
 ·cases h
theorem fF{mem:aF}{b g:Nat}{k:dE->Option R}(h:vB mem b g k=some r): ∃x,boxO? (aB mem) b g=some x.down/\k x=some r:=by
 unfold vB at h;split at h
 ·rename_i x H;rw[bZ]at h;refine⟨x,?_,h.2⟩;unfold boxO?;rw[n7 H];simp only[dE.down,dM];rw[h.1];rfl
 ·cases h
theorem eS(v:KV):v.down.cells=KV.downs v.cells:=by cases v<;>rfl
theorem qU{v:KV}(h:RV v=true):KB v.down=true:=by
 cases v<;>simp_all[RV,KB,KV.down,AV.dead,AV.unkB]
theorem fG: ∀{vs:List KV},vE vs=true->jX (KV.downs vs)=true
 | [],_=>rfl
 |v::r,h=>by
  simp only[vE,yc]at h;simp only[KV.downs,jX,yc];exact⟨qU h.1,fG h.2⟩
theorem Gr{o n:Nat}{row:KRow}{k:KRow->Option R}(h:CP (aS R) o n row k=some r): ∃v,row.down.sub o n=some v.view/\k v=some r/\qX v=qX row:=by
 cases row with
 |os=>cases h
 |cells e cs=>
  simp only[CP,real_guard,bZ]at h;refine⟨.cells e ((cs.drop (o*e)).take (n*e)),?_,h.2,rfl⟩;simp only[KRow.down,aZ.sub,aJ,eK,h.1,KRow.view,true_and];simp[cQ,yl3,yh4]
 |ts β ag T xs=>
  simp only[CP,real_guard,bZ]at h;refine⟨.ts β ag T ((xs.drop o).take n),?_,h.2,rfl⟩;have H:=h.1;clear h;revert H;refine KRow.tsCases (P:=fun β ag T xs=>Nat.ble (o+n) xs.length=true->(KRow.ts β ag T xs).down.sub o n=some (KRow.ts β ag T ((xs.drop o).take n)).view) (fun β k xs H=>?_) (fun β ag T xs h H=>?_) β ag T xs
  ·rw[KRow.down_ints];simp only[aZ.sub,eK];exact⟨H,rfl⟩
  ·rw[KRow.down_sl h,KRow.view_sl h];simp only[aZ.sub,yk1,eK,H,true_and];simp[yl3,yh4]
end Go.Ab
