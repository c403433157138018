import Derived.Test.YtjjjbgicidhpfaaDoorLib7
set_option linter.unusedVariables false
set_option linter.unusedSectionVars false
set_option linter.unusedSimpArgs false
namespace Go.Ab
variable [b3]
theorem Cy{α β:Type}{x:Option α}{f:α->Option β}{y:β}:x.bind f=some y↔∃a,x=some a/\f a=some y:=yp1
theorem dS{α:Type}{c:Bool}{x:Option α}{y:α}:guardB c x=some y↔c=true/\x=some y:=by cases c<;>simp[guardB]
theorem bP{α:Type}{c:Bool}{x:Option α}{y:α}:(bif c then x else none)=some y↔c=true/\x=some y:=by cases c<;>simp
theorem nb{a b:Nat}:Nat.beq a b=true↔a=b:=⟨Nat.eq_of_beq_eq_true,λh=>by subst h;exact yf3 a⟩
theorem nl{a b:Nat}:Nat.ble a b=true↔a≤b:=by rw[Nat.ble_eq]
theorem qK{a b:IntKind}:fY a b=true↔a=b:=by cases a<;>cases b<;>simp[fY]
theorem HS{a b:Bool}:dY a b=true↔a=b:=by cases a<;>cases b<;>simp[dY]
theorem Ty.beq_iff{a b:Ty}:Ty.beq a b=true↔a=b:=by
 refine⟨Ty.eq_of_beq,λh=>?_⟩;subst h
 induction a with
 |int k=>exact qK.2 rfl
 |bool=>rfl
 |str=>rfl
 |sl ag T J=>simp[Ty.beq,mL,J,HS.2]
 |cons a b H I=>simp[Ty.beq,mL,H,I]
section
variable {R:Type}
@[simp] theorem real_ite (c:Bool) (a b:Option R):(aQ R).ite c a b=cond c a b:=rfl
@[simp] theorem real_guard (c:Bool) (a:Option R):(aQ R).guard c a=cond c a none:=rfl
@[simp] theorem real_get {α:Type} (xs:List α) (i:Int) (k:α->Option R):(aQ R).get xs i k=(aV xs i).bind k:=rfl
@[simp] theorem real_getN {α:Type} (xs:List α) (i:Nat) (k:α->Option R):(aQ R).getN xs i k=(xs[i]?).bind k:=rfl
end
theorem lU{F:Ty->Type}{a b:Ty}{c:Bool}{H:Ty.beq a b=c}{x:F a}{y:F b}(h:Ga (F:=F) c H x=some y): ∃e:a=b,e ▸ x=y:=by
 cases c with
 |true=>exact⟨Ty.eq_of_beq H,ya h⟩
 |false=>cases h
theorem dG{a b:Ty}{x:List (den a)}{y:List (den b)}(h:oN a b x=some y): ∃e:a=b,e ▸ x=y:=lU (F:=λT=>List (den T)) h
abbrev fZ:Bool->Ty->Bool:=aY
def gK(ag:Bool)(cs:List PV):PV:=
 match ag,cs with
 |false,[c]=>c
 |_,cs=> .agg cs
noncomputable def HT(ag:Bool):(T:Ty)->(den T->List PV)->List (den T)->PV
 | .int k,f,xs=>bif ag then .sl 1 (xs.map λx=>gK ag (f x))else .ints k xs
 | .bool,f,xs=> .sl 1 (xs.map λx=>gK ag (f x))
 | .str,f,xs=> .sl 1 (xs.map λx=>gK ag (f x))
 | .sl g T,f,xs=> .sl 1 (xs.map λx=>gK ag (f x))
 | .cons a b,f,xs=> .sl (a.size+b.size) (xs.map λx=>gK ag (f x))
noncomputable def aO:(T:Ty)->den T->List PV
 | .int k,x=> [.lit (.int k x)]
 | .bool,x=> [.lit (.bool x)]
 | .str,x=> [.lit (.string x)]
 | .sl ag T,xs=> [HT ag T (aO T) xs]
 | .cons a b,x=>aO a (Prod.fst x)++aO b (Prod.snd x)
noncomputable def cF(ag:Bool)(T:Ty)(x:den T):PV:=gK ag (aO T x)
noncomputable def c8(ag:Bool)(T:Ty)(xs:List (den T)):PV:=HT ag T (aO T) xs
theorem LU{k:IntKind}{xs:List Int}:c8 false (.int k) xs= .ints k xs:=rfl
theorem bU{ag:Bool}{T:Ty}(h:fZ ag T=false)(xs:List (den T)):c8 ag T xs= .sl T.size (xs.map (cF ag T)):=by
 cases T with
 |int k=>cases ag with
  |false=>cases h
  |true=>rfl
 |bool=>rfl
 |str=>rfl
 |sl g T=>rfl
 |cons a b=>rfl
theorem aN{ag:Bool}{T:Ty}:fZ ag T=true↔ag=false/\∃k,T= .int k:=by
 cases T<;>cases ag<;>simp[fZ,aY]
theorem bN: ∀{T:Ty} {x:den T},(aO T x).length=T.size
 | .int k,x=>rfl
 | .bool,x=>rfl
 | .str,x=>rfl
 | .sl ag T,xs=>rfl
 | .cons a b,x=>by simp only[aO,ym1,bN];rfl
theorem Ty.size_pos: ∀{T:Ty},1≤T.size
 | .int k=>ya1 _
 | .bool=>ya1 _
 | .str=>ya1 _
 | .sl ag T=>ya1 _
 | .cons a b=>yc2 (Ty.size_pos (T:=a)) (Nat.le_add_right _ _)
def zK:PV->Bool
 | .agg _=>false
 |_=>true
theorem r8(ag:Bool)(T:Ty)(xs:List (den T)):zK (c8 ag T xs)=true:=by
 cases T with
 |int k=>cases ag<;>rfl
 |bool=>rfl
 |str=>rfl
 |sl g T=>rfl
 |cons a b=>rfl
theorem l8: ∀{T:Ty} {x:den T} {p:PV},p∈aO T x->zK p=true
 | .int k,x,p,h=>by simp only[aO,yb2]at h;subst h;rfl
 | .bool,x,p,h=>by simp only[aO,yb2]at h;subst h;rfl
 | .str,x,p,h=>by simp only[aO,yb2]at h;subst h;rfl
 | .sl ag T,xs,p,h=>by simp only[aO,yb2]at h;subst h;exact r8 ag T xs
 | .cons a b,x,p,h=>by
  simp only[aO,yn1]at h;exact h.elim (λh=>l8 h) (λh=>l8 h)
theorem Co{p:PV}(h:zK p=true):p.cells= [p]:=by cases p<;>first|rfl|cases h
theorem Fb{ag:Bool}{cs:List PV}(h: ∀p∈cs,zK p=true):(gK ag cs).cells=cs:=by
 unfold gK;split
 ·exact Co (h _ (by simp))
 ·rfl
theorem b4{ag:Bool}{T:Ty}{x:den T}:(cF ag T x).cells=aO T x:=Fb λp H=>l8 H
mutual
noncomputable def KV.down:KV->AV
 | .lit v=> .lit v
 | .tsl β ag T xs=> .imm β (c8 ag T xs)
 | .el β ag T x c=> .el β (cF ag T x) c
 | .ptr b g i c=> .ptr b g i c
 | .ms b g o n=> .ms b g o n
 | .msw b g=> .msw b g
 | .fn f fi ca=> .fn f (KV.downs fi) (KV.downs ca)
 | .agg cs=> .agg (KV.downs cs)
 | .tup vs=> .tup (KV.downs vs)
 | .dead=>AV.dead
 | .gone=>AV.goneV
 | .unkB=>AV.unkB
noncomputable def KV.downs:List KV->List AV
 | []=> []
 |v::r=>v.down::KV.downs r
end
theorem cC: ∀vs:List KV,KV.downs vs=vs.map KV.down
 | []=>rfl
 |v::r=>by simp[KV.downs,cC r]
theorem FS(T:Ty):fZ (eE T) T=false:=by cases T<;>rfl
noncomputable def a8:cK->List (Nat×Nat×AV)
 | []=> []
 |h::r=>(h.1,h.2.1,h.2.2.down)::a8 r
noncomputable def KRow.down:KRow->aX
 | .ts β ag T xs=>match c8 ag T xs with
  | .ints k ys=> .ints k ys
  | .sl e ys=> .pvs β e ys
  |_=> .pvs β 1 []
 | .cells e cs=> .cells e (KV.downs cs)
 | .os T xs hs=> .own T.size (xs.map (cF (eE T) T)) (a8 hs)
noncomputable def KRow.view:KRow->aL
 | .ts β ag T xs=>match c8 ag T xs with
  | .ints k ys=> .ints k ys
  | .sl e ys=> .pvs β e ys
  |_=> .pvs β 1 []
 | .cells e cs=> .avs e (KV.downs cs)
 | .os T xs hs=> .pvs true T.size (xs.map (cF (eE T) T))
noncomputable def cS.down(x:cS):bG:={gen:=x.gen,frz:=x.frz,row:=x.row.down}
noncomputable def aB(mem:aE):aK:=mem.map λx=>x.map cS.down
noncomputable def a9.down(o:a9):cU:={v:=o.v.down,rd:=o.rd,wr:=o.wr.map λq=>(q.1,q.2.down),push:=aB o.push}
theorem KRow.down_ints{β:Bool}{k:IntKind}{xs:List Int}:(KRow.ts β false (.int k) xs).down= .ints k xs:=rfl
theorem KRow.down_sl{β ag:Bool}{T:Ty}{xs:List (den T)}(h:fZ ag T=false):(KRow.ts β ag T xs).down= .pvs β T.size (xs.map (cF ag T)):=by
 simp only[KRow.down,bU h]
theorem KRow.view_sl{β ag:Bool}{T:Ty}{xs:List (den T)}(h:fZ ag T=false):(KRow.ts β ag T xs).view= .pvs β T.size (xs.map (cF ag T)):=by
 simp only[KRow.view,bU h]
theorem KRow.tsCases{P:Bool->Bool->(T:Ty)->List (den T)->Prop}(H: ∀β k (xs:List Int),P β false (.int k) xs)(hs: ∀β ag T xs,fZ ag T=false->P β ag T xs)(β ag:Bool)(T:Ty)(xs:List (den T)):P β ag T xs:=by
 cases h:fZ ag T with
 |false=>exact hs β ag T xs h
 |true=>
  obtain⟨rfl,k,rfl⟩:=aN.1 h;exact H β k xs
theorem Dk(r:KRow)(H:gI r=false):r.view.row=r.down:=by
 cases r with
 |os=>cases H
 |cells e cs=>rfl
 |ts β ag T xs=>
  refine KRow.tsCases (P:=fun β ag T xs=>(KRow.ts β ag T xs).view.row=(KRow.ts β ag T xs).down) (fun β k xs=>rfl) (fun β ag T xs h=>?_) β ag T xs;rw[KRow.view_sl h,KRow.down_sl h];rfl
theorem CB(r:KRow):r.down.all=r.view:=by
 cases r with
 |os=>rfl
 |cells e cs=>rfl
 |ts β ag T xs=>
  refine KRow.tsCases (P:=fun β ag T xs=>(KRow.ts β ag T xs).down.all=(KRow.ts β ag T xs).view) (fun β k xs=>rfl) (fun β ag T xs h=>?_) β ag T xs;rw[KRow.view_sl h,KRow.down_sl h];rfl
theorem vN(r:KRow):r.down.e=oA r:=by
 cases r with
 |os=>rfl
 |cells e cs=>rfl
 |ts β ag T xs=>
  refine KRow.tsCases (P:=fun β ag T xs=>(KRow.ts β ag T xs).down.e=oA (KRow.ts β ag T xs)) (fun β k xs=>rfl) (fun β ag T xs h=>?_) β ag T xs;rw[KRow.down_sl h];rfl
theorem HB(r:KRow):r.view.e=oA r:=by
 cases r with
 |os=>rfl
 |cells e cs=>rfl
 |ts β ag T xs=>
  refine KRow.tsCases (P:=fun β ag T xs=>(KRow.ts β ag T xs).view.e=oA (KRow.ts β ag T xs)) (fun β k xs=>rfl) (fun β ag T xs h=>?_) β ag T xs;rw[KRow.view_sl h];rfl
theorem aJ(cs:List KV):(KV.downs cs).length=cs.length:=by rw[cC,ye1]
theorem mS(r:KRow):r.down.len=eD r:=by
 cases r with
 |os=>simp[KRow.down,aX.len,eD]
 |cells e cs=>simp only[KRow.down,aX.len,eD,aJ]
 |ts β ag T xs=>
  refine KRow.tsCases (P:=fun β ag T xs=>(KRow.ts β ag T xs).down.len=eD (KRow.ts β ag T xs)) (fun β k xs=>rfl) (fun β ag T xs h=>?_) β ag T xs;rw[KRow.down_sl h];simp[aX.len,eD]
theorem qO(r:KRow):r.view.len=eD r:=by
 cases r with
 |os=>simp[KRow.view,aL.len,eD]
 |cells e cs=>simp only[KRow.view,aL.len,eD,aJ]
 |ts β ag T xs=>
  refine KRow.tsCases (P:=fun β ag T xs=>(KRow.ts β ag T xs).view.len=eD (KRow.ts β ag T xs)) (fun β k xs=>rfl) (fun β ag T xs h=>?_) β ag T xs;rw[KRow.view_sl h];simp[aL.len,eD]
theorem eS(r:KRow):r.down.isCells=gY r:=by
 cases r with
 |os=>rfl
 |cells e cs=>rfl
 |ts β ag T xs=>
  refine KRow.tsCases (P:=fun β ag T xs=>(KRow.ts β ag T xs).down.isCells=gY (KRow.ts β ag T xs)) (fun β k xs=>rfl) (fun β ag T xs h=>?_) β ag T xs;rw[KRow.down_sl h];rfl
theorem c5(r:KRow):r.down.isOwn=gI r:=by
 cases r with
 |os=>rfl
 |cells e cs=>rfl
 |ts β ag T xs=>
  refine KRow.tsCases (P:=fun β ag T xs=>(KRow.ts β ag T xs).down.isOwn=gI (KRow.ts β ag T xs)) (fun β k xs=>rfl) (fun β ag T xs h=>?_) β ag T xs;rw[KRow.down_sl h];rfl
theorem d6(mem:aE)(b:Nat):(aB mem)[b]?=(mem[b]?).map λx=>x.map cS.down:=by simp[aB]
theorem dO(mem:aE):(aB mem).length=mem.length:=by simp[aB]
theorem lW{mem:aE}{b:Nat}{x:cS}(h:dW mem b=some (some x)):(aB mem)[b]?=some (some x.down):=by
 rw[a7]at h;rw[d6,h];rfl
variable {R:Type} {r:R}
theorem bZ{mem:aE}{b g:Nat}{k:cS->Option R}(h:mH mem b g k=some r): ∃x,box? (aB mem) b g=some x.down/\k x=some r:=by
 unfold mH at h;split at h
 ·rename_i x H;rw[bP]at h;refine⟨x,?_,h.2⟩;unfold box?;rw[lW H];simp only[cS.down,c5];rw[h.1];rfl
 ·cases h
theorem eC{mem:aE}{b g:Nat}{k:cS->Option R}(h:p9 mem b g k=some r): ∃x,boxO? (aB mem) b g=some x.down/\k x=some r:=by
 unfold p9 at h;split at h
 ·rename_i x H;rw[bP]at h;refine⟨x,?_,h.2⟩;unfold boxO?;rw[lW H];simp only[cS.down,c5];rw[h.1];rfl
 ·cases h
theorem dU(v:KV):v.down.cells=KV.downs v.cells:=by cases v<;>rfl
theorem oI{v:KV}(h:NL v=true):GJ v.down=true:=by
 cases v<;>simp_all[NL,GJ,KV.down,AV.dead,AV.unkB]
theorem eG: ∀{vs:List KV},qA vs=true->iD (KV.downs vs)=true
 | [],_=>rfl
 |v::r,h=>by
  simp only[qA,yb]at h;simp only[KV.downs,iD,yb];exact⟨oI h.1,eG h.2⟩
theorem Ek{o n:Nat}{row:KRow}{k:KRow->Option R}(h:A4 (aQ R) o n row k=some r): ∃v,row.down.sub o n=some v.view/\k v=some r/\oA v=oA row:=by
 cases row with
 |os=>cases h
 |cells e cs=>
  simp only[A4,real_guard,bP]at h;refine⟨.cells e ((cs.drop (o*e)).take (n*e)),?_,h.2,rfl⟩;simp only[KRow.down,aX.sub,aJ,dS,h.1,KRow.view,true_and];simp[cC,yv2,yk3]
 |ts β ag T xs=>
  simp only[A4,real_guard,bP]at h;refine⟨.ts β ag T ((xs.drop o).take n),?_,h.2,rfl⟩;have H:=h.1;clear h;revert H;refine KRow.tsCases (P:=fun β ag T xs=>Nat.ble (o+n) xs.length=true->(KRow.ts β ag T xs).down.sub o n=some (KRow.ts β ag T ((xs.drop o).take n)).view) (fun β k xs H=>?_) (fun β ag T xs h H=>?_) β ag T xs
  ·rw[KRow.down_ints];simp only[aX.sub,dS];exact⟨H,rfl⟩
  ·rw[KRow.down_sl h,KRow.view_sl h];simp only[aX.sub,ye1,dS,H,true_and];simp[yv2,yk3]
end Go.Ab
