import Derived.Test.YtjjjbgicidhpfaaDoorLib7
set_option linter.unusedVariables false
set_option linter.unusedSectionVars false
set_option linter.unusedSimpArgs false
namespace Go.Ab
variable [cS]
theorem Hx{α β:Type}{x:Option α}{f:α->Option β}{y:β}:x.bind f=some y↔∃a,x=some a/\f a=some y:=yp1
theorem e9{α:Type}{c:Bool}{x:Option α}{y:α}:guardB c x=some y↔c=true/\x=some y:=by cases c<;>simp[guardB]
theorem cJ{α:Type}{c:Bool}{x:Option α}{y:α}:(bif c then x else none)=some y↔c=true/\x=some y:=by cases c<;>simp
theorem nb{a b:Nat}:Nat.beq a b=true↔a=b:=⟨Nat.eq_of_beq_eq_true,λh=>by subst h;exact yr3 a⟩
theorem nl{a b:Nat}:Nat.ble a b=true↔a≤b:=by rw[Nat.ble_eq]
theorem yR{a b:IntKind}:jS a b=true↔a=b:=by cases a<;>cases b<;>simp[jS]
theorem MP{a b:Bool}:fJ a b=true↔a=b:=by cases a<;>cases b<;>simp[fJ]
theorem Ty.beq_iff{a b:Ty}:Ty.beq a b=true↔a=b:=by
 refine⟨Ty.eq_of_beq,λh=>?_⟩;subst h
 induction a with
 |int k=>exact yR.2 rfl
 |bool=>rfl
 |str=>rfl
 |sl ag T K=>simp[Ty.beq,q9,K,MP.2]
 |cons a b H J=>simp[Ty.beq,q9,H,J]
section
variable {R:Type}
@[simp] theorem real_ite (c:Bool) (a b:Option R):(aZ R).ite c a b=cond c a b:=rfl
@[simp] theorem real_guard (c:Bool) (a:Option R):(aZ R).guard c a=cond c a none:=rfl
@[simp] theorem real_get {α:Type} (xs:List α) (i:Int) (k:α->Option R):(aZ R).get xs i k=(aF xs i).bind k:=rfl
@[simp] theorem real_getN {α:Type} (xs:List α) (i:Nat) (k:α->Option R):(aZ R).getN xs i k=(xs[i]?).bind k:=rfl
end
theorem p7{F:Ty->Type}{a b:Ty}{c:Bool}{hc:Ty.beq a b=c}{x:F a}{y:F b}(h:KP (F:=F) c hc x=some y): ∃e:a=b,e ▸ x=y:=by
 cases c with
 |true=>exact⟨Ty.eq_of_beq hc,yb h⟩
 |false=>cases h
theorem eT{a b:Ty}{x:List (den a)}{y:List (den b)}(h:vB a b x=some y): ∃e:a=b,e ▸ x=y:=p7 (F:=λT=>List (den T)) h
abbrev jW:Bool->Ty->Bool:=bD
def kN(ag:Bool)(cs:List PV):PV:=
 match ag,cs with
 |false,[c]=>c
 |_,cs=> .agg cs
noncomputable def NM(ag:Bool):(T:Ty)->(den T->List PV)->List (den T)->PV
 | .int k,f,xs=>bif ag then .sl 1 (xs.map λx=>kN ag (f x))else .ints k xs
 | .bool,f,xs=> .sl 1 (xs.map λx=>kN ag (f x))
 | .str,f,xs=> .sl 1 (xs.map λx=>kN ag (f x))
 | .sl g T,f,xs=> .sl 1 (xs.map λx=>kN ag (f x))
 | .cons a b,f,xs=> .sl (a.size+b.size) (xs.map λx=>kN ag (f x))
noncomputable def aV:(T:Ty)->den T->List PV
 | .int k,x=> [.lit (.int k x)]
 | .bool,x=> [.lit (.bool x)]
 | .str,x=> [.lit (.string x)]
 | .sl ag T,xs=> [NM ag T (aV T) xs]
 | .cons a b,x=>aV a (Prod.fst x)++aV b (Prod.snd x)
noncomputable def c9(ag:Bool)(T:Ty)(x:den T):PV:=kN ag (aV T x)
noncomputable def eJ(ag:Bool)(T:Ty)(xs:List (den T)):PV:=NM ag T (aV T) xs
theorem R2{k:IntKind}{xs:List Int}:eJ false (.int k) xs= .ints k xs:=rfl
theorem cO{ag:Bool}{T:Ty}(h:jW ag T=false)(xs:List (den T)):eJ ag T xs= .sl T.size (xs.map (c9 ag T)):=by
 cases T with
 |int k=>cases ag with
  |false=>cases h
  |true=>rfl
 |bool=>rfl
 |str=>rfl
 |sl g T=>rfl
 |cons a b=>rfl
theorem aS{ag:Bool}{T:Ty}:jW ag T=true↔ag=false/\∃k,T= .int k:=by
 cases T<;>cases ag<;>simp[jW,bD]
theorem cD: ∀{T:Ty} {x:den T},(aV T x).length=T.size
 | .int k,x=>rfl
 | .bool,x=>rfl
 | .str,x=>rfl
 | .sl ag T,xs=>rfl
 | .cons a b,x=>by simp only[aV,yi,cD];rfl
theorem Ty.size_pos: ∀{T:Ty},1≤T.size
 | .int k=>yb1 _
 | .bool=>yb1 _
 | .str=>yb1 _
 | .sl ag T=>yb1 _
 | .cons a b=>yv2 (Ty.size_pos (T:=a)) (Nat.le_add_right _ _)
def Dh:PV->Bool
 | .agg _=>false
 |_=>true
theorem zJ(ag:Bool)(T:Ty)(xs:List (den T)):Dh (eJ ag T xs)=true:=by
 cases T with
 |int k=>cases ag<;>rfl
 |bool=>rfl
 |str=>rfl
 |sl g T=>rfl
 |cons a b=>rfl
theorem qL: ∀{T:Ty} {x:den T} {p:PV},p∈aV T x->Dh p=true
 | .int k,x,p,h=>by simp only[aV,yi1]at h;subst h;rfl
 | .bool,x,p,h=>by simp only[aV,yi1]at h;subst h;rfl
 | .str,x,p,h=>by simp only[aV,yi1]at h;subst h;rfl
 | .sl ag T,xs,p,h=>by simp only[aV,yi1]at h;subst h;exact zJ ag T xs
 | .cons a b,x,p,h=>by
  simp only[aV,yr1]at h;exact h.elim (λh=>qL h) (λh=>qL h)
theorem Ha{p:PV}(h:Dh p=true):p.cells= [p]:=by cases p<;>first|rfl|cases h
theorem IW{ag:Bool}{cs:List PV}(h: ∀p∈cs,Dh p=true):(kN ag cs).cells=cs:=by
 unfold kN;split
 ·exact Ha (h _ (by simp))
 ·rfl
theorem cU{ag:Bool}{T:Ty}{x:den T}:(c9 ag T x).cells=aV T x:=IW λp H=>qL H
mutual
noncomputable def KV.down:KV->AV
 | .lit v=> .lit v
 | .tsl β ag T xs=> .imm β (eJ ag T xs)
 | .el β ag T x c=> .el β (c9 ag T x) c
 | .ptr b g i c=> .ptr b g i c
 | .ms b g o n=> .ms b g o n
 | .msw b g=> .msw b g
 | .fn f fi ca=> .fn f (KV.downs fi) (KV.downs ca)
 | .agg cs=> .agg (KV.downs cs)
 | .tup vs=> .tup (KV.downs vs)
 | .dead=>AV.dead
 | .gone=>AV.goneV
 | .unkB=>AV.unkB
noncomputable def KV.downs:List KV->List AV
 | []=> []
 |v::r=>v.down::KV.downs r
end
theorem dD: ∀vs:List KV,KV.downs vs=vs.map KV.down
 | []=>rfl
 |v::r=>by simp[KV.downs,dD r]
theorem Lb(T:Ty):jW (gF T) T=false:=by cases T<;>rfl
noncomputable def bI:dL->List (Nat×Nat×AV)
 | []=> []
 |h::r=>(h.1,h.2.1,h.2.2.down)::bI r
noncomputable def KRow.down:KRow->bC
 | .ts β ag T xs=>match eJ ag T xs with
  | .ints k ys=> .ints k ys
  | .sl e ys=> .pvs β e ys
  |_=> .pvs β 1 []
 | .cells e cs=> .cells e (KV.downs cs)
 | .os T xs hs=> .own T.size (xs.map (c9 (gF T) T)) (bI hs)
noncomputable def KRow.view:KRow->aP
 | .ts β ag T xs=>match eJ ag T xs with
  | .ints k ys=> .ints k ys
  | .sl e ys=> .pvs β e ys
  |_=> .pvs β 1 []
 | .cells e cs=> .avs e (KV.downs cs)
 | .os T xs hs=> .pvs true T.size (xs.map (c9 (gF T) T))
noncomputable def dW.down(x:dW):bV:={gen:=x.gen,frz:=x.frz,row:=x.row.down}
noncomputable def aD(mem:aH):aO:=mem.map λx=>x.map dW.down
noncomputable def bK.down(o:bK):dY:={v:=o.v.down,rd:=o.rd,wr:=o.wr.map λq=>(q.1,q.2.down),push:=aD o.push}
theorem KRow.down_ints{β:Bool}{k:IntKind}{xs:List Int}:(KRow.ts β false (.int k) xs).down= .ints k xs:=rfl
theorem KRow.down_sl{β ag:Bool}{T:Ty}{xs:List (den T)}(h:jW ag T=false):(KRow.ts β ag T xs).down= .pvs β T.size (xs.map (c9 ag T)):=by
 simp only[KRow.down,cO h]
theorem KRow.view_sl{β ag:Bool}{T:Ty}{xs:List (den T)}(h:jW ag T=false):(KRow.ts β ag T xs).view= .pvs β T.size (xs.map (c9 ag T)):=by
 simp only[KRow.view,cO h]
theorem KRow.tsCases{P:Bool->Bool->(T:Ty)->List (den T)->Prop}(H: ∀β k (xs:List Int),P β false (.int k) xs)(hs: ∀β ag T xs,jW ag T=false->P β ag T xs)(β ag:Bool)(T:Ty)(xs:List (den T)):P β ag T xs:=by
 cases h:jW ag T with
 |false=>exact hs β ag T xs h
 |true=>
  obtain⟨rfl,k,rfl⟩:=aS.1 h;exact H β k xs
theorem Ii(r:KRow)(H:kJ r=false):r.view.row=r.down:=by
 cases r with
 |os=>cases H
 |cells e cs=>rfl
 |ts β ag T xs=>
  refine KRow.tsCases (P:=fun β ag T xs=>(KRow.ts β ag T xs).view.row=(KRow.ts β ag T xs).down) (fun β k xs=>rfl) (fun β ag T xs h=>?_) β ag T xs;rw[KRow.view_sl h,KRow.down_sl h];rfl
theorem HA(r:KRow):r.down.all=r.view:=by
 cases r with
 |os=>rfl
 |cells e cs=>rfl
 |ts β ag T xs=>
  refine KRow.tsCases (P:=fun β ag T xs=>(KRow.ts β ag T xs).down.all=(KRow.ts β ag T xs).view) (fun β k xs=>rfl) (fun β ag T xs h=>?_) β ag T xs;rw[KRow.view_sl h,KRow.down_sl h];rfl
theorem Bp(r:KRow):r.down.e=sR r:=by
 cases r with
 |os=>rfl
 |cells e cs=>rfl
 |ts β ag T xs=>
  refine KRow.tsCases (P:=fun β ag T xs=>(KRow.ts β ag T xs).down.e=sR (KRow.ts β ag T xs)) (fun β k xs=>rfl) (fun β ag T xs h=>?_) β ag T xs;rw[KRow.down_sl h];rfl
theorem Ln(r:KRow):r.view.e=sR r:=by
 cases r with
 |os=>rfl
 |cells e cs=>rfl
 |ts β ag T xs=>
  refine KRow.tsCases (P:=fun β ag T xs=>(KRow.ts β ag T xs).view.e=sR (KRow.ts β ag T xs)) (fun β k xs=>rfl) (fun β ag T xs h=>?_) β ag T xs;rw[KRow.view_sl h];rfl
theorem aN(cs:List KV):(KV.downs cs).length=cs.length:=by rw[dD,ym1]
theorem rB(r:KRow):r.down.len=gD r:=by
 cases r with
 |os=>simp[KRow.down,bC.len,gD]
 |cells e cs=>simp only[KRow.down,bC.len,gD,aN]
 |ts β ag T xs=>
  refine KRow.tsCases (P:=fun β ag T xs=>(KRow.ts β ag T xs).down.len=gD (KRow.ts β ag T xs)) (fun β k xs=>rfl) (fun β ag T xs h=>?_) β ag T xs;rw[KRow.down_sl h];simp[bC.len,gD]
theorem yZ(r:KRow):r.view.len=gD r:=by
 cases r with
 |os=>simp[KRow.view,aP.len,gD]
 |cells e cs=>simp only[KRow.view,aP.len,gD,aN]
 |ts β ag T xs=>
  refine KRow.tsCases (P:=fun β ag T xs=>(KRow.ts β ag T xs).view.len=gD (KRow.ts β ag T xs)) (fun β k xs=>rfl) (fun β ag T xs h=>?_) β ag T xs;rw[KRow.view_sl h];simp[aP.len,gD]
theorem gT(r:KRow):r.down.isCells=lC r:=by
 cases r with
 |os=>rfl
 |cells e cs=>rfl
 |ts β ag T xs=>
  refine KRow.tsCases (P:=fun β ag T xs=>(KRow.ts β ag T xs).down.isCells=lC (KRow.ts β ag T xs)) (fun β k xs=>rfl) (fun β ag T xs h=>?_) β ag T xs;rw[KRow.down_sl h];rfl
theorem eC(r:KRow):r.down.isOwn=kJ r:=by
 cases r with
 |os=>rfl
 |cells e cs=>rfl
 |ts β ag T xs=>
  refine KRow.tsCases (P:=fun β ag T xs=>(KRow.ts β ag T xs).down.isOwn=kJ (KRow.ts β ag T xs)) (fun β k xs=>rfl) (fun β ag T xs h=>?_) β ag T xs;rw[KRow.down_sl h];rfl
theorem fT(mem:aH)(b:Nat):(aD mem)[b]?=(mem[b]?).map λx=>x.map dW.down:=by simp[aD]
theorem e8(mem:aH):(aD mem).length=mem.length:=by simp[aD]
theorem pZ{mem:aH}{b:Nat}{x:dW}(h:fD mem b=some (some x)):(aD mem)[b]?=some (some x.down):=by
 rw[bH]at h;rw[fT,h];rfl
variable {R:Type} {r:R}
theorem cR{mem:aH}{b g:Nat}{k:dW->Option R}(h:qR mem b g k=some r): ∃x,box? (aD mem) b g=some x.down/\k x=some r:=by
 unfold qR at h;split at h
 ·rename_i x H;rw[cJ]at h;refine⟨x,?_,h.2⟩;unfold box?;rw[pZ H];simp only[dW.down,eC];rw[h.1];rfl
 ·cases h
theorem gE{mem:aH}{b g:Nat}{k:dW->Option R}(h:yL mem b g k=some r): ∃x,boxO? (aD mem) b g=some x.down/\k x=some r:=by
 unfold yL at h;split at h
 ·rename_i x H;rw[cJ]at h;refine⟨x,?_,h.2⟩;unfold boxO?;rw[pZ H];simp only[dW.down,eC];rw[h.1];rfl
 ·cases h
theorem fE(v:KV):v.down.cells=KV.downs v.cells:=by cases v<;>rfl
theorem sN{v:KV}(h:TY v=true):Mz v.down=true:=by
 cases v<;>simp_all[TY,Mz,KV.down,AV.dead,AV.unkB]
theorem gC: ∀{vs:List KV},w5 vs=true->lX (KV.downs vs)=true
 | [],_=>rfl
 |v::r,h=>by
  simp only[w5,yc]at h;simp only[KV.downs,lX,yc];exact⟨sN h.1,gC h.2⟩
theorem I7{o n:Nat}{row:KRow}{k:KRow->Option R}(h:E2 (aZ R) o n row k=some r): ∃v,row.down.sub o n=some v.view/\k v=some r/\sR v=sR row:=by
 cases row with
 |os=>cases h
 |cells e cs=>
  simp only[E2,real_guard,cJ]at h;refine⟨.cells e ((cs.drop (o*e)).take (n*e)),?_,h.2,rfl⟩;simp only[KRow.down,bC.sub,aN,e9,h.1,KRow.view,true_and];simp[dD,yp3,yh4]
 |ts β ag T xs=>
  simp only[E2,real_guard,cJ]at h;refine⟨.ts β ag T ((xs.drop o).take n),?_,h.2,rfl⟩;have H:=h.1;clear h;revert H;refine KRow.tsCases (P:=fun β ag T xs=>Nat.ble (o+n) xs.length=true->(KRow.ts β ag T xs).down.sub o n=some (KRow.ts β ag T ((xs.drop o).take n)).view) (fun β k xs H=>?_) (fun β ag T xs h H=>?_) β ag T xs
  ·rw[KRow.down_ints];simp only[bC.sub,e9];exact⟨H,rfl⟩
  ·rw[KRow.down_sl h,KRow.view_sl h];simp only[bC.sub,ym1,e9,H,true_and];simp[yp3,yh4]
end Go.Ab
