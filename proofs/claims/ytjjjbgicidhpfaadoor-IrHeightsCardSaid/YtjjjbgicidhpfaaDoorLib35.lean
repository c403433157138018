import Derived.Test.YtjjjbgicidhpfaaDoorLib30
set_option linter.unusedVariables false
set_option linter.unusedSectionVars false
set_option linter.unusedSimpArgs false
namespace Go.Ab
variable [cS]
variable {P:Program} {R:Type} {r:R} {tab:TypeId->Option TI} {mem:aH}
noncomputable section
mutual
def AV.frzD(m:Nat)(mem:aO):AV->AV
 | .agg cs=> .agg (AV.frzDs m mem cs)
 | .tup cs=> .tup (AV.frzDs m mem cs)
 | .msw b g=>AV.frz m mem (.msw b g)
 |v=>v
def AV.frzDs(m:Nat)(mem:aO):List AV->List AV
 | []=> []
 |v::r=>v.frzD m mem::AV.frzDs m mem r
end
mutual
def KV.frzD(m:Nat)(mem:aH):KV->KV
 | .agg cs=> .agg (KV.frzDs m mem cs)
 | .tup cs=> .tup (KV.frzDs m mem cs)
 | .msw b g=>KV.frz m mem (.msw b g)
 |v=>v
def KV.frzDs(m:Nat)(mem:aH):List KV->List KV
 | []=> []
 |v::r=>v.frzD m mem::KV.frzDs m mem r
end
def iQ(k:Nat):mS:=λb g=>bif Nat.blt b k then some (b,g)else none
def mZ(f:mS):aO->aO
 | []=> []
 |some x::r=>some {x with row:=x.row.ren f}::mZ f r
 |none::r=>none::mZ f r
def A7(f:mS):aH->aH
 | []=> []
 |some x::r=>some ⟨x.gen,x.frz,x.row.ren f⟩::A7 f r
 |none::r=>none::A7 f r
def nO(k:Nat)(q:AV×aO):AV×aO:=
 bif iH k (q.1.frzD k q.2).refs&&iH k (cV (q.2.take k))then((q.1.frzD k q.2).ren (iQ k),mZ (iQ k) (q.2.take k))else q
def wI(k:Nat)(v:KV)(mem:aH):KV×aH:=
 bif iH k (v.frzD k mem).refs&&iH k (kO (mem.take k))then((v.frzD k mem).ren (iQ k),A7 (iQ k) (mem.take k))else(v,mem)
mutual
theorem Kr(m:Nat)(mem:aH): ∀v:KV,v.down.frzD m (aD mem)=(v.frzD m mem).down
 | .agg cs=>by simp only[KV.down,AV.frzD,KV.frzD,Cq m mem cs]
 | .tup cs=>by simp only[KV.down,AV.frzD,KV.frzD,Cq m mem cs]
 | .msw b g=>IB m mem (.msw b g)
 | .lit v=>by simp only[KV.down,AV.frzD,KV.frzD]
 | .tsl β ag T xs=>by simp only[KV.down,AV.frzD,KV.frzD]
 | .el β ag T x c=>by simp only[KV.down,AV.frzD,KV.frzD]
 | .ptr b g i c=>by simp only[KV.down,AV.frzD,KV.frzD]
 | .ms b g o n=>by simp only[KV.down,AV.frzD,KV.frzD]
 | .fn f fi ca=>by simp only[KV.down,AV.frzD,KV.frzD]
 | .dead=>by simp only[KV.down,AV.dead,AV.frzD,KV.frzD]
 | .gone=>by simp only[KV.down,AV.goneV,AV.frzD,KV.frzD]
 | .unkB=>by simp only[KV.down,AV.unkB,AV.frzD,KV.frzD]
theorem Cq(m:Nat)(mem:aH): ∀vs:List KV,AV.frzDs m (aD mem) (KV.downs vs)=KV.downs (KV.frzDs m mem vs)
 | []=>by simp only[KV.downs,AV.frzDs,KV.frzDs]
 |v::vs=>by simp only[KV.downs,AV.frzDs,KV.frzDs,Kr m mem v,Cq m mem vs]
end
theorem Aj(f:mS): ∀mem:aH,mZ f (aD mem)=aD (A7 f mem)
 | []=>rfl
 |none::m=>by
  have:=Aj f m;simp only[aD,yl2,Option.map_none,mZ,A7]at this⊢
  rw[this]
 |some x::m=>by
  have:=Aj f m;simp only[aD,yl2,yl,mZ,A7]at this⊢
  rw[this];simp only[dW.down,Hn]
theorem M9(k:Nat)(v:KV)(mem:aH):nO k (v.down,aD mem)=((wI k v mem).1.down,aD (wI k v mem).2):=by
 unfold nO wI;simp only[Kr,HW,j9,AG,Ak,Aj];cases iH k (KV.frzD k mem v).refs&&iH k (kO (mem.take k))<;>rfl
theorem sL(m:Nat)(mem:aO): ∀vs:List AV,AV.frzDs m mem vs=vs.map (·.frzD m mem)
 | []=>by simp[AV.frzDs]
 |v::vs=>by simp[AV.frzDs,sL m mem vs]
theorem QD{G:Gh}{w:World}{mem:aO}{m:Nat}{v:AV}{cv:Value}(hM:aJ G w mem)(hv:VR G w v cv):VR (G.frz (oW G mem m)) w (v.frzD m mem) cv:=by
 have hg:dH G (G.frz (oW G mem m)):=dH.frz G _ (by rintro B o ⟨b,x,L,_,O,J,hB⟩;exact hM.mine O J hB);have H:=fun{a:AV} {u:Value} (h:VR G w a u)=>h.mono hg (Ev.refl G w)
 induction hv with
 |lit v h=>simp only[AV.frzD];exact .lit v h
 |imm β p v h hs=>simp only[AV.frzD];exact H (.imm β p v h hs)
 |unkB b=>simp only[AV.frzD];exact .unkB b
 |dead v W V=>simp only[AV.frzD];exact .dead v W V
 |ptr b g i c L B J K=>simp only[AV.frzD];exact H (.ptr b g i c L B J K)
 |ms b g o n cap L B J K hn N hf=>simp only[AV.frzD];exact H (.ms b g o n cap L B J K hn N hf)
 |msNil b g L J K=>simp only[AV.frzD];exact H (.msNil b g L J K)
 |msZ b g o B oo L J K ho N=>simp only[AV.frzD];exact H (.msZ b g o B oo L J K ho N)
 |msw b g cap L B J K hn hf=>simp only[AV.frzD];exact vE hM (.msw b g cap L B J K hn hf)
 |mswNil b g L J K hn=>simp only[AV.frzD];exact vE hM (.mswNil b g L J K hn)
 |el β p c B o cv h hr=>simp only[AV.frzD];exact H (.el β p c B o cv h hr)
 |fn f fi Z fv cv W V hf hc ihf ihc=>simp only[AV.frzD];exact H (.fn f fi Z fv cv W V hf hc)
 |agg cs cvs M h Y=>
  simp only[AV.frzD];refine .agg _ cvs (by rw[sL];simpa using M) (λj y U=>?_);rw[sL,yh1]at U;obtain⟨x,O,rfl⟩:=yf.1 U;exact Y j x O
 |tup cs cvs M h Y=>
  simp only[AV.frzD];refine .tup _ cvs (by rw[sL];simpa using M) (λj y U=>?_);rw[sL,yh1]at U;obtain⟨x,O,rfl⟩:=yf.1 U;exact Y j x O
theorem nN(f:mS): ∀(m:aO) (j:Nat),(mZ f m)[j]?=(m[j]?).map λo=>o.map λx=>{x with row:=x.row.ren f}
 | [],j=>by simp[mZ]
 |some x::m,0=>rfl
 |none::m,0=>rfl
 |some x::m,j+1=>by simp only[mZ,yo1];exact nN f m j
 |none::m,j+1=>by simp only[mZ,yo1];exact nN f m j
theorem V3.settle{G:Gh}{w:World}{m:aO}{q:AV×aO}{O:Gh}{w':World}{cv:Value}(h:V3 G w m q O w' cv): ∃G2,V3 G w m (nO m.length q) G2 w' cv:=by
 unfold nO;cases hc:(iH m.length (q.1.frzD m.length q.2).refs&&iH m.length (cV (q.2.take m.length)))with
 |false=>exact⟨O,h⟩
 |true=>
  simp only[yh];obtain⟨hv,hev,hmine,hprot,hnew,hM,hgens,hkept,hnones⟩:=h;have hg:dH O (O.frz (oW O q.2 m.length)):=dH.frz O _ (by rintro B o ⟨b,x,L,_,H,Y,hB⟩;exact hM.mine H Y hB)
  let G2:Gh:={loc:=λb g=>if b<m.length then O.loc b g else none,prot:=fun β B o=>O.prot β B o\/oW O q.2 m.length B o,mine:=O.mine}
  have K: ∀{b g:Nat},b<m.length->G2.loc b g=O.loc b g:=λN=>if_pos N;have hro:F2 (O.frz (oW O q.2 m.length)) G2 (iQ m.length):=by
   intro b g p L M hL;unfold iQ at M;cases N:Nat.blt b m.length with
   |false=>rw[N]at M;cases M
   |true=>
    rw[N]at M;obtain rfl:=yb M;rw[Nat.blt_eq]at N;show G2.loc b g=some L;rw[K N];exact hL
  have J: ∀{j:Nat} {y:bV},(mZ (iQ m.length) (q.2.take m.length))[j]?=some (some y)->j<m.length/\∃x,q.2[j]?=some (some x)/\y={x with row:=x.row.ren (iQ m.length)}:=by
   intro j y U;rw[nN,yy1]at U;by_cases hj:j<m.length
   ·rw[if_pos hj]at U;obtain⟨o,ho,hoy⟩:=yf.1 U;cases o with
    |none=>cases hoy
    |some x=>exact⟨hj,x,ho,(yb hoy).symm⟩
   ·rw[if_neg hj]at U;cases U
  refine⟨G2,?_,hev,hmine,fun β B o M=> .inl (hprot β B o M),?_,?_,?_,?_,?_⟩
  ·exact(QD hM hv).ren (l:=true) hro (fun β B o _ M=>M) (λ_=>rfl)
  ·rintro β B o (M|⟨b,x,L,_,H,Y,hB⟩)
   ·exact hnew β B o M
   ·exact .inr (hmine ▸ hM.mine H Y hB)
  ·have Z: ∀{b:Nat} {x:bV} {B:Nat},b<m.length->fP G2 b {x with row:=x.row.ren (iQ m.length)} B->fP O b x B:=by
    rintro b x B N ⟨L,Y,hB⟩
    exact⟨L,by rw[<-K N];exact Y,hB⟩
   refine⟨?_,?_,?_,?_,?_,?_,hM.own,λB o M=>M.imp (hM.lab B o) id,?_,hM.glob.mono (λ_ _ h=> .inl h) λ_ _ _=>rfl⟩
   ·intro b y U;obtain⟨N,x,H,rfl⟩:=J U;have hbx:=hM.box b x H;obtain⟨o,a0,Y,ha0,hmm⟩:=hbx.loc;refine⟨by rw[pP];exact hbx.e,o,a0,by rw[K N,pP,lW];exact Y,by rw[wC];exact ha0,?_⟩;cases o with
    |none=>exact⟨by rw[lW];exact hmm.1,by rw[dX];exact hmm.2⟩
    |some B=>
     obtain⟨h1,h2,h3,h4,h5⟩:=hmm;have hBk:fP O b x B:=⟨_,Y,rfl⟩
     have hin: ∀i c B',c6 w' B x.row i c B'->O.mine B'/\∀β o,¬(O.prot β B' o\/oW O q.2 m.length B' o):=by
      intro i c B' hi;obtain⟨m1,m2,m3,m4⟩:=hM.inn H hBk hi;refine⟨m1,fun β o M=>?_⟩;rcases M with M|⟨b',x',L',_,V,W,hB'⟩
      ·exact m4 β o M
      ·exact hM.inA b b' x x' B i c B' H hBk hi V ⟨L',W,hB'⟩
     have hrow:jR (O.frz (oW O q.2 m.length)) w' B a0 x.row:=h4.mono hg (Ev.refl O w') (λ_ _=>rfl) (λi c B' hi=>⟨⟨λ_=>rfl,id⟩,(hin i c B' hi).2⟩);refine⟨h1,h2,h3,hrow.ren (l:=true) hro (fun β B o _ M=>M) (λ_=>rfl) hin,λhf β o M=>?_⟩;rcases M with M|⟨b',x',L',hb',V,W,hB'⟩
     ·exact h5 hf β o M
     ·have:=hM.apart b b' x x' _ L' B H V Y W rfl hB';omega
   ·intro b g hn;by_cases N:b<m.length
    ·rw[K N];refine hM.unset b g λx H=>hn {x with row:=x.row.ren (iQ m.length)} ?_;rw[nN,yy1,if_pos N,H];rfl
    ·exact if_neg N
   ·intro b y g U hlt;obtain⟨N,x,H,rfl⟩:=J U;rw[K N];exact hM.gens b x g H hlt
   ·intro b b' y y' L L' B U hy' Y W hB hB';obtain⟨N,x,H,rfl⟩:=J U;obtain⟨hb',x',V,rfl⟩:=J hy';rw[K N]at Y;rw[K hb']at W;exact hM.apart b b' x x' L L' B H V Y W hB hB'
   ·intro b b' y y' B i c B' U k hi hy' k';obtain⟨N,x,H,rfl⟩:=J U;obtain⟨hb',x',V,rfl⟩:=J hy';exact hM.inA b b' x x' B i c B' H (Z N k) (c6.ren.1 hi) V (Z hb' k')
   ·intro b b' y y' B C i c i' c' B' U k hi hy' k' hi';obtain⟨N,x,H,rfl⟩:=J U;obtain⟨hb',x',V,rfl⟩:=J hy';exact hM.inB b b' x x' B C i c i' c' B' H (Z N k) (c6.ren.1 hi) V (Z hb' k') (c6.ren.1 hi')
   ·rintro β B o (M|⟨b,x,L,_,H,Y,hB⟩)
    ·exact hM.away β B o M
    ·obtain⟨oo,a0,W,ha0,hmm⟩:=(hM.box b x H).loc;rw[Y]at W;obtain rfl:=yb W;simp only at hB;subst hB;exact hmm.2.1
  ·intro j y hj U;obtain⟨_,x,H,rfl⟩:=J U;exact hgens j x (hj.imp id λh=>by rw[<-dX (f:=iQ m.length)];exact h) H
  ·intro j x H;have hj:j<m.length:=by
    rcases yq2 j m.length with h|h
    ·exact h
    ·rw[yc1 h]at H;cases H
   obtain⟨y,U,hk,Y⟩:=hkept j x H;refine⟨{y with row:=y.row.ren (iQ m.length)},?_,by rw[dX];exact hk,λL hL=>?_⟩
   ·show(mZ (iQ m.length) (q.2.take m.length))[j]?=_
    rw[nN,yy1,if_pos hj,U];rfl
   ·rw[K hj];exact Y L hL
  ·intro j H;have hj:j<m.length:=by
    rcases yq2 j m.length with h|h
    ·exact h
    ·rw[yc1 h]at H;cases H
   show(mZ (iQ m.length) (q.2.take m.length))[j]?=_
   rw[nN,yy1,if_pos hj,hnones j H];rfl
def QO{R:Type}(I:WS R)(tab:TypeId->Option TI)(tbl:FuncId->List aG)(loops:Nat->Option aQ)(an:o5)(fn:Func)(k0:Nat)(a:oU)(rr:List oU)(d:a.den)(k:fG rr->Option R):Option R:=
 UN I tab tbl loops an fn (eD a.sh (P2.fst a.sh.dflt _ _ d)) (jC a.msh (P2.snd a.msh.dflt _ _ d)) λv mem=>
  match Ap true rr .ret ⟨eK [0] [(wI k0 v mem).1],(wI k0 v mem).2⟩with
  |some b=>k b
  |none=>none
theorem rS: ∀mem:aH,(iD mem).length=mem.length
 | []=>rfl
 |none::m=>by simp only[iD,yw,rS m]
 |some x::m=>by simp only[iD,yw,rS m]
open Classical in
theorem J3(hn:rF P=true)(hm:P.follows .mixedOrders=true)(ht:b9 P tab){tbl:FuncId->List aG}(hto: ∀g,(tbl g).all Q7=true)(htb: ∀g,∀E∈tbl g,AF P g E)
  {f:FuncId} {fn:Func} (hf:P.funcs[f]?=some fn) {c:Code} (hb:fn.body=some c) {E:aG} (ho:UC fn c E=true) {an:o5} {loops:Nat->Option aQ} {old:List (Option Bool)} {n:Nat}
  (K: ∀d,iD (jC E.a.msh d)=old) (hl:rM tab tbl loops an old n c 0) (V: ∀a,QO (aZ (fG E.r)) tab tbl loops an fn old.length E.a E.r a some=E.sh a):AF P f E:=by
 intro a b hab G w as m vargs hle hM hg0 hv;refine⟨Dv hf hn (by rw[hb];rfl),?_⟩;simp only[UC,yc]at ho;have N:=ho.1.1;simp only[Q7,yc]at N;obtain⟨Y,hls,rfl⟩:=hle;have hC:=JI htb;have M:=oS.all (w:=w) hM.lab N.1.1.1 hls;have hv':=M.vrs hv;have hr:=(V a).trans hab;unfold QO UN at hr;rw[hb]at hr;simp only at hr;rw[K]at hr;have hkl:(aD (jC E.a.msh (P2.snd E.a.msh.dflt E.a.sh.un E.a.msh.un a))).length=old.length:=by
  rw[<-K,rS,e8]
 let k1:Ex->St->Option Unit:=λe st=>if∃q,HK P fn old e st=some q/\J6 E b (nO old.length q)then some ()else none
 have hlenA:(eD E.a.sh (P2.fst E.a.sh.dflt E.a.sh.un E.a.msh.un a)).length≤fn.ntmps:=by
  rw[<-aN,<-M.len,Y];exact nl.1 ho.2
 have U:=Ki ht (Re hto) (n:=n) (m:=fn.ntmps) c ho.1.2 (R1:=Unit) (r1:=()) (k1:=k1) hl (K1 (n:=fn.ntmps) λv hv=>A1 hv)
  (by rw[yi,yi3,aN];omega) hr (λe st' tmps' h1 h2 h3=>?_)
 ·have J:x9 (aD (jC E.a.msh (P2.snd E.a.msh.dflt E.a.sh.un E.a.msh.un a)))=old:=(vS _).trans (K _)
  have:=Tf hC (Ro hm hC an) (n:=n) hf hb (args:=KV.downs (eD E.a.sh (P2.fst E.a.sh.dflt E.a.sh.un E.a.msh.un a))) (k1:=k1) (r1:=()) (good:=λq=>J6 E b (nO old.length q)) (λe st h=>by
   rw[J]
   show∃q,HK P fn old e st=some q/\J6 E b (nO old.length q)
   by_cases Z: ∃q,HK P fn old e st=some q/\J6 E b (nO old.length q)
   ·exact Z
   ·have h:(if∃q,HK P fn old e st=some q/\J6 E b (nO old.length q)then some ()else none)=some ():=h
    rw[if_neg Z]at h;cases h) (by rw[J,aN];exact U) hM hg0 hv'
  refine this.mono λe w' Z=>?_;obtain⟨q,hg,G',cv,he,H⟩:=Z;obtain⟨G2,H⟩:=H.settle;rw[hkl]at H;generalize nO old.length q=q2 at hg H;obtain⟨qv,qm⟩:=q2;obtain⟨O,hg2⟩:=hg;have O:qm=(D8 E b).2:=O;subst O;exact⟨G2,cv,he,hg2 G2 w' cv H.memR.lab H.v,H.ev,H.mine,H.prot,H.new,H.memR,H.gens,H.kept,H.nones⟩
 ·obtain⟨v,mm,h4,h5⟩:=OS ht h2 h1;have W:Ap true E.r .ret ⟨eK [0] [(wI old.length v mm).1],(wI old.length v mm).2⟩=some b:=by
   split at h4
   ·rename_i b' hb';rw[hb',yb h4]
   ·cases h4
  obtain⟨g1,g2⟩:=JA N.2 W;refine if_pos ⟨_,h5,?_⟩;rw[M9];exact⟨congrArg aD g1.symm,g2⟩
section
variable {tbl:FuncId->List aG} {loops:Nat->Option aQ} {an:o5} {old:List (Option Bool)} {n:Nat} {c:Code}
theorem a6.ofS(hn:rF P=true)(hm:P.follows .mixedOrders=true)(ht:b9 P tab)(hT:Ge P tbl){f:FuncId}{fn:Func}(hf:P.funcs[f]?=some fn)(N:fn.body=some c){E:aG}
  (M:UC fn c E=true) (K:eN ((gK c 0).map (·.1))=true) (J: ∀d,iD (jC E.a.msh d)=old) (O:LT tab tbl loops an old n c loops)
  (H: ∀a,QO (aZ (fG E.r)) tab tbl loops an fn old.length E.a E.r a some=E.sh a):a6 P f E:=
 ⟨by simp only[UC,yc]at M;exact M.1.1,J3 hn hm ht (λg=>ya1.2 λE hE=>(hT g E hE).1) (λg E hE=>(hT g E hE).2) hf N M J (O.ok K) H⟩
end
end
end Go.Ab
