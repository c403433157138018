import Derived.Test.YtjjjbgicidhpfaaDoorLib30
set_option linter.unusedVariables false
set_option linter.unusedSectionVars false
set_option linter.unusedSimpArgs false
namespace Go.Ab
variable [cF]
variable {P:Program} {R:Type} {r:R} {tab:TypeId->Option TI} {mem:aF}
noncomputable section
mutual
def AV.frzD(m:Nat)(mem:aK):AV->AV
 | .agg cs=> .agg (AV.frzDs m mem cs)
 | .tup cs=> .tup (AV.frzDs m mem cs)
 | .msw b g=>AV.frz m mem (.msw b g)
 |v=>v
def AV.frzDs(m:Nat)(mem:aK):List AV->List AV
 | []=> []
 |v::r=>v.frzD m mem::AV.frzDs m mem r
end
mutual
def KV.frzD(m:Nat)(mem:aF):KV->KV
 | .agg cs=> .agg (KV.frzDs m mem cs)
 | .tup cs=> .tup (KV.frzDs m mem cs)
 | .msw b g=>KV.frz m mem (.msw b g)
 |v=>v
def KV.frzDs(m:Nat)(mem:aF):List KV->List KV
 | []=> []
 |v::r=>v.frzD m mem::KV.frzDs m mem r
end
def gR(k:Nat):kY:=λb g=>bif Nat.blt b k then some (b,g)else none
def lM(f:kY):aK->aK
 | []=> []
 |some x::r=>some {x with row:=x.row.ren f}::lM f r
 |none::r=>none::lM f r
def y4(f:kY):aF->aF
 | []=> []
 |some x::r=>some ⟨x.gen,x.frz,x.row.ren f⟩::y4 f r
 |none::r=>none::y4 f r
def mD(k:Nat)(q:AV×aK):AV×aK:=
 bif gB k (q.1.frzD k q.2).refs&&gB k (cJ (q.2.take k))then((q.1.frzD k q.2).ren (gR k),lM (gR k) (q.2.take k))else q
def vA(k:Nat)(v:KV)(mem:aF):KV×aF:=
 bif gB k (v.frzD k mem).refs&&gB k (jD (mem.take k))then((v.frzD k mem).ren (gR k),y4 (gR k) (mem.take k))else(v,mem)
mutual
theorem II(m:Nat)(mem:aF): ∀v:KV,v.down.frzD m (aB mem)=(v.frzD m mem).down
 | .agg cs=>by simp only[KV.down,AV.frzD,KV.frzD,AP m mem cs]
 | .tup cs=>by simp only[KV.down,AV.frzD,KV.frzD,AP m mem cs]
 | .msw b g=>HT m mem (.msw b g)
 | .lit v=>by simp only[KV.down,AV.frzD,KV.frzD]
 | .tsl β ag T xs=>by simp only[KV.down,AV.frzD,KV.frzD]
 | .el β ag T x c=>by simp only[KV.down,AV.frzD,KV.frzD]
 | .ptr b g i c=>by simp only[KV.down,AV.frzD,KV.frzD]
 | .ms b g o n=>by simp only[KV.down,AV.frzD,KV.frzD]
 | .fn f fi ca=>by simp only[KV.down,AV.frzD,KV.frzD]
 | .dead=>by simp only[KV.down,AV.dead,AV.frzD,KV.frzD]
 | .gone=>by simp only[KV.down,AV.goneV,AV.frzD,KV.frzD]
 | .unkB=>by simp only[KV.down,AV.unkB,AV.frzD,KV.frzD]
theorem AP(m:Nat)(mem:aF): ∀vs:List KV,AV.frzDs m (aB mem) (KV.downs vs)=KV.downs (KV.frzDs m mem vs)
 | []=>by simp only[KV.downs,AV.frzDs,KV.frzDs]
 |v::vs=>by simp only[KV.downs,AV.frzDs,KV.frzDs,II m mem v,AP m mem vs]
end
theorem wF(f:kY): ∀mem:aF,lM f (aB mem)=aB (y4 f mem)
 | []=>rfl
 |none::m=>by
  have:=wF f m;simp only[aB,yg2,Option.map_none,lM,y4]at this⊢
  rw[this]
 |some x::m=>by
  have:=wF f m;simp only[aB,yg2,yl,lM,y4]at this⊢
  rw[this];simp only[dE.down,FH]
theorem MD(k:Nat)(v:KV)(mem:aF):mD k (v.down,aB mem)=((vA k v mem).1.down,aB (vA k v mem).2):=by
 unfold mD vA;simp only[II,GD,iS,zD,wO,wF];cases gB k (KV.frzD k mem v).refs&&gB k (jD (mem.take k))<;>rfl
theorem q7(m:Nat)(mem:aK): ∀vs:List AV,AV.frzDs m mem vs=vs.map (·.frzD m mem)
 | []=>by simp[AV.frzDs]
 |v::vs=>by simp[AV.frzDs,q7 m mem vs]
theorem Nl{G:Gh}{w:World}{mem:aK}{m:Nat}{v:AV}{cv:Value}(hM:aH G w mem)(hv:VR G w v cv):VR (G.frz (m6 G mem m)) w (v.frzD m mem) cv:=by
 have hg:c5 G (G.frz (m6 G mem m)):=c5.frz G _ (by rintro B o ⟨b,x,L,_,U,J,hB⟩;exact hM.mine U J hB);have H:=fun{a:AV} {u:Value} (h:VR G w a u)=>h.mono hg (Ev.refl G w)
 induction hv with
 |lit v h=>simp only[AV.frzD];exact .lit v h
 |imm β p v h hs=>simp only[AV.frzD];exact H (.imm β p v h hs)
 |unkB b=>simp only[AV.frzD];exact .unkB b
 |dead v Y V=>simp only[AV.frzD];exact .dead v Y V
 |ptr b g i c L B J M=>simp only[AV.frzD];exact H (.ptr b g i c L B J M)
 |ms b g o n cap L B J M hn N hf=>simp only[AV.frzD];exact H (.ms b g o n cap L B J M hn N hf)
 |msNil b g L J M=>simp only[AV.frzD];exact H (.msNil b g L J M)
 |msZ b g o B oo L J M ho N=>simp only[AV.frzD];exact H (.msZ b g o B oo L J M ho N)
 |msw b g cap L B J M hn hf=>simp only[AV.frzD];exact q6 hM (.msw b g cap L B J M hn hf)
 |mswNil b g L J M hn=>simp only[AV.frzD];exact q6 hM (.mswNil b g L J M hn)
 |el β p c B o cv h hr=>simp only[AV.frzD];exact H (.el β p c B o cv h hr)
 |fn f Z ca fv cv Y V hf hc ihf ihc=>simp only[AV.frzD];exact H (.fn f Z ca fv cv Y V hf hc)
 |agg cs cvs K h W=>
  simp only[AV.frzD];refine .agg _ cvs (by rw[q7];simpa using K) (λj y O=>?_);rw[q7,yg1]at O;obtain⟨x,U,rfl⟩:=ye.1 O;exact W j x U
 |tup cs cvs K h W=>
  simp only[AV.frzD];refine .tup _ cvs (by rw[q7];simpa using K) (λj y O=>?_);rw[q7,yg1]at O;obtain⟨x,U,rfl⟩:=ye.1 O;exact W j x U
theorem lS(f:kY): ∀(m:aK) (j:Nat),(lM f m)[j]?=(m[j]?).map λo=>o.map λx=>{x with row:=x.row.ren f}
 | [],j=>by simp[lM]
 |some x::m,0=>rfl
 |none::m,0=>rfl
 |some x::m,j+1=>by simp only[lM,ym1];exact lS f m j
 |none::m,j+1=>by simp only[lM,ym1];exact lS f m j
theorem TW.settle{G:Gh}{w:World}{m:aK}{q:AV×aK}{O:Gh}{w':World}{cv:Value}(h:TW G w m q O w' cv): ∃G2,TW G w m (mD m.length q) G2 w' cv:=by
 unfold mD;cases hc:(gB m.length (q.1.frzD m.length q.2).refs&&gB m.length (cJ (q.2.take m.length)))with
 |false=>exact⟨O,h⟩
 |true=>
  simp only[yg];obtain⟨hv,hev,hmine,hprot,hnew,hM,hgens,hkept,hnones⟩:=h;have hg:c5 O (O.frz (m6 O q.2 m.length)):=c5.frz O _ (by rintro B o ⟨b,x,L,_,H,Y,hB⟩;exact hM.mine H Y hB)
  let G2:Gh:={loc:=λb g=>if b<m.length then O.loc b g else none,prot:=fun β B o=>O.prot β B o\/m6 O q.2 m.length B o,mine:=O.mine}
  have K: ∀{b g:Nat},b<m.length->G2.loc b g=O.loc b g:=λN=>if_pos N;have hro:Ey (O.frz (m6 O q.2 m.length)) G2 (gR m.length):=by
   intro b g p L M hL;unfold gR at M;cases N:Nat.blt b m.length with
   |false=>rw[N]at M;cases M
   |true=>
    rw[N]at M;obtain rfl:=ya M;rw[Nat.blt_eq]at N;show G2.loc b g=some L;rw[K N];exact hL
  have J: ∀{j:Nat} {y:bK},(lM (gR m.length) (q.2.take m.length))[j]?=some (some y)->j<m.length/\∃x,q.2[j]?=some (some x)/\y={x with row:=x.row.ren (gR m.length)}:=by
   intro j y W;rw[lS,ys1]at W;by_cases hj:j<m.length
   ·rw[if_pos hj]at W;obtain⟨o,ho,hoy⟩:=ye.1 W;cases o with
    |none=>cases hoy
    |some x=>exact⟨hj,x,ho,(ya hoy).symm⟩
   ·rw[if_neg hj]at W;cases W
  refine⟨G2,?_,hev,hmine,fun β B o M=> .inl (hprot β B o M),?_,?_,?_,?_,?_⟩
  ·exact(Nl hM hv).ren (l:=true) hro (fun β B o _ M=>M) (λ_=>rfl)
  ·rintro β B o (M|⟨b,x,L,_,H,Y,hB⟩)
   ·exact hnew β B o M
   ·exact .inr (hmine ▸ hM.mine H Y hB)
  ·have Z: ∀{b:Nat} {x:bK} {B:Nat},b<m.length->eT G2 b {x with row:=x.row.ren (gR m.length)} B->eT O b x B:=by
    rintro b x B N ⟨L,Y,hB⟩
    exact⟨L,by rw[<-K N];exact Y,hB⟩
   refine⟨?_,?_,?_,?_,?_,?_,hM.own,λB o M=>M.imp (hM.lab B o) id,?_,hM.glob.mono (λ_ _ h=> .inl h) λ_ _ _=>rfl⟩
   ·intro b y W;obtain⟨N,x,H,rfl⟩:=J W;have hbx:=hM.box b x H;obtain⟨o,a0,Y,ha0,hmm⟩:=hbx.loc;refine⟨by rw[nV];exact hbx.e,o,a0,by rw[K N,nV,j9];exact Y,by rw[rU];exact ha0,?_⟩;cases o with
    |none=>exact⟨by rw[j9];exact hmm.1,by rw[dG];exact hmm.2⟩
    |some B=>
     obtain⟨h1,h2,h3,h4,h5⟩:=hmm;have hBk:eT O b x B:=⟨_,Y,rfl⟩
     have hin: ∀i c B',cN w' B x.row i c B'->O.mine B'/\∀β o,¬(O.prot β B' o\/m6 O q.2 m.length B' o):=by
      intro i c B' hi;obtain⟨m1,m2,m3,m4⟩:=hM.inn H hBk hi;refine⟨m1,fun β o M=>?_⟩;rcases M with M|⟨b',x',L',_,U,V,hB'⟩
      ·exact m4 β o M
      ·exact hM.inA b b' x x' B i c B' H hBk hi U ⟨L',V,hB'⟩
     have hrow:iD (O.frz (m6 O q.2 m.length)) w' B a0 x.row:=h4.mono hg (Ev.refl O w') (λ_ _=>rfl) (λi c B' hi=>⟨⟨λ_=>rfl,id⟩,(hin i c B' hi).2⟩);refine⟨h1,h2,h3,hrow.ren (l:=true) hro (fun β B o _ M=>M) (λ_=>rfl) hin,λhf β o M=>?_⟩;rcases M with M|⟨b',x',L',hb',U,V,hB'⟩
     ·exact h5 hf β o M
     ·have:=hM.apart b b' x x' _ L' B H U Y V rfl hB';omega
   ·intro b g hn;by_cases N:b<m.length
    ·rw[K N];refine hM.unset b g λx H=>hn {x with row:=x.row.ren (gR m.length)} ?_;rw[lS,ys1,if_pos N,H];rfl
    ·exact if_neg N
   ·intro b y g W hlt;obtain⟨N,x,H,rfl⟩:=J W;rw[K N];exact hM.gens b x g H hlt
   ·intro b b' y y' L L' B W hy' Y V hB hB';obtain⟨N,x,H,rfl⟩:=J W;obtain⟨hb',x',U,rfl⟩:=J hy';rw[K N]at Y;rw[K hb']at V;exact hM.apart b b' x x' L L' B H U Y V hB hB'
   ·intro b b' y y' B i c B' W k hi hy' k';obtain⟨N,x,H,rfl⟩:=J W;obtain⟨hb',x',U,rfl⟩:=J hy';exact hM.inA b b' x x' B i c B' H (Z N k) (cN.ren.1 hi) U (Z hb' k')
   ·intro b b' y y' B C i c i' c' B' W k hi hy' k' hi';obtain⟨N,x,H,rfl⟩:=J W;obtain⟨hb',x',U,rfl⟩:=J hy';exact hM.inB b b' x x' B C i c i' c' B' H (Z N k) (cN.ren.1 hi) U (Z hb' k') (cN.ren.1 hi')
   ·rintro β B o (M|⟨b,x,L,_,H,Y,hB⟩)
    ·exact hM.away β B o M
    ·obtain⟨oo,a0,V,ha0,hmm⟩:=(hM.box b x H).loc;rw[Y]at V;obtain rfl:=ya V;simp only at hB;subst hB;exact hmm.2.1
  ·intro j y hj W;obtain⟨_,x,H,rfl⟩:=J W;exact hgens j x (hj.imp id λh=>by rw[<-dG (f:=gR m.length)];exact h) H
  ·intro j x H;have hj:j<m.length:=by
    rcases yl2 j m.length with h|h
    ·exact h
    ·rw[yd1 h]at H;cases H
   obtain⟨y,W,hk,Y⟩:=hkept j x H;refine⟨{y with row:=y.row.ren (gR m.length)},?_,by rw[dG];exact hk,λL hL=>?_⟩
   ·show(lM (gR m.length) (q.2.take m.length))[j]?=_
    rw[lS,ys1,if_pos hj,W];rfl
   ·rw[K hj];exact Y L hL
  ·intro j H;have hj:j<m.length:=by
    rcases yl2 j m.length with h|h
    ·exact h
    ·rw[yd1 h]at H;cases H
   show(lM (gR m.length) (q.2.take m.length))[j]?=_
   rw[lS,ys1,if_pos hj,hnones j H];rfl
def Pt{R:Type}(I:UU R)(tab:TypeId->Option TI)(tbl:FuncId->List aE)(loops:Nat->Option aT)(an:nB)(fn:Func)(k0:Nat)(a:mT)(rr:List mT)(d:a.den)(k:eN rr->Option R):Option R:=
 TN I tab tbl loops an fn (dN a.sh (P2.fst a.sh.dflt _ _ d)) (gX a.msh (P2.snd a.msh.dflt _ _ d)) λv mem=>
  match wT true rr .ret ⟨dW [0] [(vA k0 v mem).1],(vA k0 v mem).2⟩with
  |some b=>k b
  |none=>none
theorem p6: ∀mem:aF,(f8 mem).length=mem.length
 | []=>rfl
 |none::m=>by simp only[f8,yz,p6 m]
 |some x::m=>by simp only[f8,yz,p6 m]
open Classical in
theorem If(hn:pU P=true)(hm:P.follows .mixedOrders=true)(ht:bT P tab){tbl:FuncId->List aE}(hto: ∀g,(tbl g).all Pf=true)(htb: ∀g,∀E∈tbl g,y3 P g E)
  {f:FuncId} {fn:Func} (hf:P.funcs[f]?=some fn) {c:Code} (hb:fn.body=some c) {E:aE} (Z:SG fn c E=true) {an:nB} {loops:Nat->Option aT} {old:List (Option Bool)} {n:Nat}
  (K: ∀d,f8 (gX E.a.msh d)=old) (hl:pR tab tbl loops an old n c 0) (Y: ∀a,Pt (aS (eN E.r)) tab tbl loops an fn old.length E.a E.r a some=E.sh a):y3 P f E:=by
 intro a b hab G w as m vargs hle hM hg0 hv;refine⟨BF hf hn (by rw[hb];rfl),?_⟩;simp only[SG,yc]at Z;have O:=Z.1.1;simp only[Pf,yc]at O;obtain⟨V,hls,rfl⟩:=hle;have hC:=F8 htb;have M:=m8.all (w:=w) hM.lab O.1.1.1 hls;have hv':=M.vrs hv;have hr:=(Y a).trans hab;unfold Pt TN at hr;rw[hb]at hr;simp only at hr;rw[K]at hr;have hkl:(aB (gX E.a.msh (P2.snd E.a.msh.dflt E.a.sh.un E.a.msh.un a))).length=old.length:=by
  rw[<-K,p6,eG]
 let k1:Ex->St->Option Unit:=λe st=>if∃q,GV P fn old e st=some q/\H9 E b (mD old.length q)then some ()else none
 have hlenA:(dN E.a.sh (P2.fst E.a.sh.dflt E.a.sh.un E.a.msh.un a)).length≤fn.ntmps:=by
  rw[<-aJ,<-M.len,V];exact nl.1 Z.2
 have U:=Ir ht (OK hto) (n:=n) (m:=fn.ntmps) c Z.1.2 (R1:=Unit) (r1:=()) (k1:=k1) hl (Jk (n:=fn.ntmps) λv hv=>zC hv)
  (by rw[yi,yj3,aJ];omega) hr (λe st' tmps' h1 h2 h3=>?_)
 ·have J:vD (aB (gX E.a.msh (P2.snd E.a.msh.dflt E.a.sh.un E.a.msh.un a)))=old:=(r5 _).trans (K _)
  have:=R6 hC (OO hm hC an) (n:=n) hf hb (args:=KV.downs (dN E.a.sh (P2.fst E.a.sh.dflt E.a.sh.un E.a.msh.un a))) (k1:=k1) (r1:=()) (good:=λq=>H9 E b (mD old.length q)) (λe st h=>by
   rw[J]
   show∃q,GV P fn old e st=some q/\H9 E b (mD old.length q)
   by_cases hq: ∃q,GV P fn old e st=some q/\H9 E b (mD old.length q)
   ·exact hq
   ·have h:(if∃q,GV P fn old e st=some q/\H9 E b (mD old.length q)then some ()else none)=some ():=h
    rw[if_neg hq]at h;cases h) (by rw[J,aJ];exact U) hM hg0 hv'
  refine this.mono λe w' hq=>?_;obtain⟨q,hg,G',cv,he,H⟩:=hq;obtain⟨G2,H⟩:=H.settle;rw[hkl]at H;generalize mD old.length q=q2 at hg H;obtain⟨qv,qm⟩:=q2;obtain⟨N,hg2⟩:=hg;have N:qm=(Cj E b).2:=N;subst N;exact⟨G2,cv,he,hg2 G2 w' cv H.memR.lab H.v,H.ev,H.mine,H.prot,H.new,H.memR,H.gens,H.kept,H.nones⟩
 ·obtain⟨v,mm,h4,h5⟩:=Lz ht h2 h1;have W:wT true E.r .ret ⟨dW [0] [(vA old.length v mm).1],(vA old.length v mm).2⟩=some b:=by
   split at h4
   ·rename_i b' hb';rw[hb',ya h4]
   ·cases h4
  obtain⟨g1,g2⟩:=Hr O.2 W;refine if_pos ⟨_,h5,?_⟩;rw[MD];exact⟨congrArg aB g1.symm,g2⟩
section
variable {tbl:FuncId->List aE} {loops:Nat->Option aT} {an:nB} {old:List (Option Bool)} {n:Nat} {c:Code}
theorem bE.ofS(hn:pU P=true)(hm:P.follows .mixedOrders=true)(ht:bT P tab)(hT:Es P tbl){f:FuncId}{fn:Func}(hf:P.funcs[f]?=some fn)(O:fn.body=some c){E:aE}
  (M:SG fn c E=true) (K:dY ((fK c 0).map (·.1))=true) (H: ∀d,f8 (gX E.a.msh d)=old) (N:LT tab tbl loops an old n c loops)
  (J: ∀a,Pt (aS (eN E.r)) tab tbl loops an fn old.length E.a E.r a some=E.sh a):bE P f E:=
 ⟨by simp only[SG,yc]at M;exact M.1.1,If hn hm ht (λg=>yf1.2 λE hE=>(hT g E hE).1) (λg E hE=>(hT g E hE).2) hf O M H (N.ok K) J⟩
end
end
end Go.Ab
