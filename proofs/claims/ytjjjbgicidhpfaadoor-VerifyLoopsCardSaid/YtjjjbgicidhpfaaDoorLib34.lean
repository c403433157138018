import Derived.Test.YtjjjbgicidhpfaaDoorLib29
set_option linter.unusedVariables false
set_option linter.unusedSectionVars false
set_option linter.unusedSimpArgs false
namespace Go.Ab
variable [b3]
variable {P:Program} {R:Type} {r:R} {tab:TypeId->Option TI} {mem:aE}
noncomputable section
mutual
def AV.frzD(m:Nat)(mem:aK):AV->AV
 | .agg cs=> .agg (AV.frzDs m mem cs)
 | .tup cs=> .tup (AV.frzDs m mem cs)
 | .msw b g=>AV.frz m mem (.msw b g)
 |v=>v
def AV.frzDs(m:Nat)(mem:aK):List AV->List AV
 | []=> []
 |v::r=>v.frzD m mem::AV.frzDs m mem r
end
mutual
def KV.frzD(m:Nat)(mem:aE):KV->KV
 | .agg cs=> .agg (KV.frzDs m mem cs)
 | .tup cs=> .tup (KV.frzDs m mem cs)
 | .msw b g=>KV.frz m mem (.msw b g)
 |v=>v
def KV.frzDs(m:Nat)(mem:aE):List KV->List KV
 | []=> []
 |v::r=>v.frzD m mem::KV.frzDs m mem r
end
def fE(k:Nat):i7:=λb g=>bif Nat.blt b k then some (b,g)else none
def jD(f:i7):aK->aK
 | []=> []
 |some x::r=>some {x with row:=x.row.ren f}::jD f r
 |none::r=>none::jD f r
def s7(f:i7):aE->aE
 | []=> []
 |some x::r=>some ⟨x.gen,x.frz,x.row.ren f⟩::s7 f r
 |none::r=>none::s7 f r
def j0(k:Nat)(q:AV×aK):AV×aK:=
 bif e6 k (q.1.frzD k q.2).refs&&e6 k (b6 (q.2.take k))then((q.1.frzD k q.2).ren (fE k),jD (fE k) (q.2.take k))else q
def pP(k:Nat)(v:KV)(mem:aE):KV×aE:=
 bif e6 k (v.frzD k mem).refs&&e6 k (gL (mem.take k))then((v.frzD k mem).ren (fE k),s7 (fE k) (mem.take k))else(v,mem)
mutual
theorem FN(m:Nat)(mem:aE): ∀v:KV,v.down.frzD m (aB mem)=(v.frzD m mem).down
 | .agg cs=>by simp only[KV.down,AV.frzD,KV.frzD,yH m mem cs]
 | .tup cs=>by simp only[KV.down,AV.frzD,KV.frzD,yH m mem cs]
 | .msw b g=>Eu m mem (.msw b g)
 | .lit v=>by simp only[KV.down,AV.frzD,KV.frzD]
 | .tsl β ag T xs=>by simp only[KV.down,AV.frzD,KV.frzD]
 | .el β ag T x c=>by simp only[KV.down,AV.frzD,KV.frzD]
 | .ptr b g i c=>by simp only[KV.down,AV.frzD,KV.frzD]
 | .ms b g o n=>by simp only[KV.down,AV.frzD,KV.frzD]
 | .fn f fi ca=>by simp only[KV.down,AV.frzD,KV.frzD]
 | .dead=>by simp only[KV.down,AV.dead,AV.frzD,KV.frzD]
 | .gone=>by simp only[KV.down,AV.goneV,AV.frzD,KV.frzD]
 | .unkB=>by simp only[KV.down,AV.unkB,AV.frzD,KV.frzD]
theorem yH(m:Nat)(mem:aE): ∀vs:List KV,AV.frzDs m (aB mem) (KV.downs vs)=KV.downs (KV.frzDs m mem vs)
 | []=>by simp only[KV.downs,AV.frzDs,KV.frzDs]
 |v::vs=>by simp only[KV.downs,AV.frzDs,KV.frzDs,FN m mem v,yH m mem vs]
end
theorem rS(f:i7): ∀mem:aE,jD f (aB mem)=aB (s7 f mem)
 | []=>rfl
 |none::m=>by
  have:=rS f m;simp only[aB,yt1,Option.map_none,jD,s7]at this⊢
  rw[this]
 |some x::m=>by
  have:=rS f m;simp only[aB,yt1,yh,jD,s7]at this⊢
  rw[this];simp only[cS.down,Ct]
theorem Jx(k:Nat)(v:KV)(mem:aE):j0 k (v.down,aB mem)=((pP k v mem).1.down,aB (pP k v mem).2):=by
 unfold j0 pP;simp only[FN,Dz,gC,s0,qP,rS];cases e6 k (KV.frzD k mem v).refs&&e6 k (gL (mem.take k))<;>rfl
theorem n6(m:Nat)(mem:aK): ∀vs:List AV,AV.frzDs m mem vs=vs.map (·.frzD m mem)
 | []=>by simp[AV.frzDs]
 |v::vs=>by simp[AV.frzDs,n6 m mem vs]
theorem KR{G:Gh}{w:World}{mem:aK}{m:Nat}{v:AV}{cv:Value}(hM:aI G w mem)(hv:VR G w v cv):VR (G.frz (kK G mem m)) w (v.frzD m mem) cv:=by
 have hg:cJ G (G.frz (kK G mem m)):=cJ.frz G _ (by rintro B o ⟨b,x,L,_,O,I,hB⟩;exact hM.mine O I hB);have H:=fun{a:AV} {u:Value} (h:VR G w a u)=>h.mono hg (Ev.refl G w)
 induction hv with
 |lit v h=>simp only[AV.frzD];exact .lit v h
 |imm β p v h hs=>simp only[AV.frzD];exact H (.imm β p v h hs)
 |unkB b=>simp only[AV.frzD];exact .unkB b
 |dead v W Y=>simp only[AV.frzD];exact .dead v W Y
 |ptr b g i c L B I J=>simp only[AV.frzD];exact H (.ptr b g i c L B I J)
 |ms b g o n cap L B I J hn M U=>simp only[AV.frzD];exact H (.ms b g o n cap L B I J hn M U)
 |msNil b g L I J=>simp only[AV.frzD];exact H (.msNil b g L I J)
 |msZ b g o B oo L I J ho M=>simp only[AV.frzD];exact H (.msZ b g o B oo L I J ho M)
 |msw b g cap L B I J hn U=>simp only[AV.frzD];exact n7 hM (.msw b g cap L B I J hn U)
 |mswNil b g L I J hn=>simp only[AV.frzD];exact n7 hM (.mswNil b g L I J hn)
 |el β p c B o cv h hr=>simp only[AV.frzD];exact H (.el β p c B o cv h hr)
 |fn f Z ca fv cv W Y U hc ihf ihc=>simp only[AV.frzD];exact H (.fn f Z ca fv cv W Y U hc)
 |agg cs cvs K h V=>
  simp only[AV.frzD];refine .agg _ cvs (by rw[n6];simpa using K) (λj y N=>?_);rw[n6,yc1]at N;obtain⟨x,O,rfl⟩:=yc.1 N;exact V j x O
 |tup cs cvs K h V=>
  simp only[AV.frzD];refine .tup _ cvs (by rw[n6];simpa using K) (λj y N=>?_);rw[n6,yc1]at N;obtain⟨x,O,rfl⟩:=yc.1 N;exact V j x O
theorem jQ(f:i7): ∀(m:aK) (j:Nat),(jD f m)[j]?=(m[j]?).map λo=>o.map λx=>{x with row:=x.row.ren f}
 | [],j=>by simp[jD]
 |some x::m,0=>rfl
 |none::m,0=>rfl
 |some x::m,j+1=>by simp only[jD,yd1];exact jQ f m j
 |none::m,j+1=>by simp only[jD,yd1];exact jQ f m j
theorem OE.settle{G:Gh}{w:World}{m:aK}{q:AV×aK}{N:Gh}{w':World}{cv:Value}(h:OE G w m q N w' cv): ∃G2,OE G w m (j0 m.length q) G2 w' cv:=by
 unfold j0;cases hc:(e6 m.length (q.1.frzD m.length q.2).refs&&e6 m.length (b6 (q.2.take m.length)))with
 |false=>exact⟨N,h⟩
 |true=>
  simp only[yl];obtain⟨hv,hev,hmine,hprot,hnew,hM,hgens,hkept,hnones⟩:=h;have hg:cJ N (N.frz (kK N q.2 m.length)):=cJ.frz N _ (by rintro B o ⟨b,x,L,_,H,W,hB⟩;exact hM.mine H W hB)
  let G2:Gh:={loc:=λb g=>if b<m.length then N.loc b g else none,prot:=fun β B o=>N.prot β B o\/kK N q.2 m.length B o,mine:=N.mine}
  have J: ∀{b g:Nat},b<m.length->G2.loc b g=N.loc b g:=λM=>if_pos M;have hro:Cb (N.frz (kK N q.2 m.length)) G2 (fE m.length):=by
   intro b g p L K hL;unfold fE at K;cases M:Nat.blt b m.length with
   |false=>rw[M]at K;cases K
   |true=>
    rw[M]at K;obtain rfl:=ya K;rw[Nat.blt_eq]at M;show G2.loc b g=some L;rw[J M];exact hL
  have I: ∀{j:Nat} {y:bG},(jD (fE m.length) (q.2.take m.length))[j]?=some (some y)->j<m.length/\∃x,q.2[j]?=some (some x)/\y={x with row:=x.row.ren (fE m.length)}:=by
   intro j y V;rw[jQ,yi1]at V;by_cases hj:j<m.length
   ·rw[if_pos hj]at V;obtain⟨o,ho,hoy⟩:=yc.1 V;cases o with
    |none=>cases hoy
    |some x=>exact⟨hj,x,ho,(ya hoy).symm⟩
   ·rw[if_neg hj]at V;cases V
  refine⟨G2,?_,hev,hmine,fun β B o K=> .inl (hprot β B o K),?_,?_,?_,?_,?_⟩
  ·exact(KR hM hv).ren (l:=true) hro (fun β B o _ K=>K) (λ_=>rfl)
  ·rintro β B o (K|⟨b,x,L,_,H,W,hB⟩)
   ·exact hnew β B o K
   ·exact .inr (hmine ▸ hM.mine H W hB)
  ·have Y: ∀{b:Nat} {x:bG} {B:Nat},b<m.length->d5 G2 b {x with row:=x.row.ren (fE m.length)} B->d5 N b x B:=by
    rintro b x B M ⟨L,W,hB⟩
    exact⟨L,by rw[<-J M];exact W,hB⟩
   refine⟨?_,?_,?_,?_,?_,?_,hM.own,λB o K=>K.imp (hM.lab B o) id,?_,hM.glob.mono (λ_ _ h=> .inl h) λ_ _ _=>rfl⟩
   ·intro b y V;obtain⟨M,x,H,rfl⟩:=I V;have hbx:=hM.box b x H;obtain⟨o,a0,W,ha0,hmm⟩:=hbx.loc;refine⟨by rw[lG];exact hbx.e,o,a0,by rw[J M,lG,h8];exact W,by rw[o6];exact ha0,?_⟩;cases o with
    |none=>exact⟨by rw[h8];exact hmm.1,by rw[cT];exact hmm.2⟩
    |some B=>
     obtain⟨h1,h2,h3,h4,h5⟩:=hmm;have hBk:d5 N b x B:=⟨_,W,rfl⟩
     have hin: ∀i c B',cA w' B x.row i c B'->N.mine B'/\∀β o,¬(N.prot β B' o\/kK N q.2 m.length B' o):=by
      intro i c B' hi;obtain⟨m1,m2,m3,m4⟩:=hM.inn H hBk hi;refine⟨m1,fun β o K=>?_⟩;rcases K with K|⟨b',x',L',_,U,O,hB'⟩
      ·exact m4 β o K
      ·exact hM.inA b b' x x' B i c B' H hBk hi U ⟨L',O,hB'⟩
     have hrow:fN (N.frz (kK N q.2 m.length)) w' B a0 x.row:=h4.mono hg (Ev.refl N w') (λ_ _=>rfl) (λi c B' hi=>⟨⟨λ_=>rfl,id⟩,(hin i c B' hi).2⟩);refine⟨h1,h2,h3,hrow.ren (l:=true) hro (fun β B o _ K=>K) (λ_=>rfl) hin,λhf β o K=>?_⟩;rcases K with K|⟨b',x',L',Z,U,O,hB'⟩
     ·exact h5 hf β o K
     ·have:=hM.apart b b' x x' _ L' B H U W O rfl hB';omega
   ·intro b g hn;by_cases M:b<m.length
    ·rw[J M];refine hM.unset b g λx H=>hn {x with row:=x.row.ren (fE m.length)} ?_;rw[jQ,yi1,if_pos M,H];rfl
    ·exact if_neg M
   ·intro b y g V hlt;obtain⟨M,x,H,rfl⟩:=I V;rw[J M];exact hM.gens b x g H hlt
   ·intro b b' y y' L L' B V hy' W O hB hB';obtain⟨M,x,H,rfl⟩:=I V;obtain⟨Z,x',U,rfl⟩:=I hy';rw[J M]at W;rw[J Z]at O;exact hM.apart b b' x x' L L' B H U W O hB hB'
   ·intro b b' y y' B i c B' V k hi hy' k';obtain⟨M,x,H,rfl⟩:=I V;obtain⟨Z,x',U,rfl⟩:=I hy';exact hM.inA b b' x x' B i c B' H (Y M k) (cA.ren.1 hi) U (Y Z k')
   ·intro b b' y y' B C i c i' c' B' V k hi hy' k' hi';obtain⟨M,x,H,rfl⟩:=I V;obtain⟨Z,x',U,rfl⟩:=I hy';exact hM.inB b b' x x' B C i c i' c' B' H (Y M k) (cA.ren.1 hi) U (Y Z k') (cA.ren.1 hi')
   ·rintro β B o (K|⟨b,x,L,_,H,W,hB⟩)
    ·exact hM.away β B o K
    ·obtain⟨oo,a0,O,ha0,hmm⟩:=(hM.box b x H).loc;rw[W]at O;obtain rfl:=ya O;simp only at hB;subst hB;exact hmm.2.1
  ·intro j y hj V;obtain⟨_,x,H,rfl⟩:=I V;exact hgens j x (hj.imp id λh=>by rw[<-cT (f:=fE m.length)];exact h) H
  ·intro j x H;have hj:j<m.length:=by
    rcases yd2 j m.length with h|h
    ·exact h
    ·rw[yb1 h]at H;cases H
   obtain⟨y,V,hk,W⟩:=hkept j x H;refine⟨{y with row:=y.row.ren (fE m.length)},?_,by rw[cT];exact hk,λL hL=>?_⟩
   ·show(jD (fE m.length) (q.2.take m.length))[j]?=_
    rw[jQ,yi1,if_pos hj,V];rfl
   ·rw[J hj];exact W L hL
  ·intro j H;have hj:j<m.length:=by
    rcases yd2 j m.length with h|h
    ·exact h
    ·rw[yb1 h]at H;cases H
   show(jD (fE m.length) (q.2.take m.length))[j]?=_
   rw[jQ,yi1,if_pos hj,hnones j H];rfl
def LA{R:Type}(I:Pm R)(tab:TypeId->Option TI)(tbl:FuncId->List aD)(loops:Nat->Option aT)(an:kQ)(fn:Func)(k0:Nat)(a:kN)(rr:List kN)(d:a.den)(k:dV rr->Option R):Option R:=
 Oy I tab tbl loops an fn (c6 a.sh (P2.fst a.sh.dflt _ _ d)) (fM a.msh (P2.snd a.msh.dflt _ _ d)) λv mem=>
  match sB true rr .ret ⟨dD [0] [(pP k0 v mem).1],(pP k0 v mem).2⟩with
  |some b=>k b
  |none=>none
theorem nC: ∀mem:aE,(eV mem).length=mem.length
 | []=>rfl
 |none::m=>by simp only[eV,ym2,nC m]
 |some x::m=>by simp only[eV,ym2,nC m]
open Classical in
theorem Fz(hn:mQ P=true)(hm:P.follows .mixedOrders=true)(ht:bL P tab){tbl:FuncId->List aD}(hto: ∀g,(tbl g).all Lh=true)(htb: ∀g,∀E∈tbl g,vI P g E)
  {f:FuncId} {fn:Func} (hf:P.funcs[f]?=some fn) {c:Code} (hb:fn.body=some c) {E:aD} (Y:NT fn c E=true) {an:kQ} {loops:Nat->Option aT} {old:List (Option Bool)} {n:Nat}
  (J: ∀d,eV (fM E.a.msh d)=old) (hl:m6 tab tbl loops an old n c 0) (U: ∀a,LA (aQ (dV E.r)) tab tbl loops an fn old.length E.a E.r a some=E.sh a):vI P f E:=by
 intro a b hab G w as m vargs hle hM hg0 hv;refine⟨zU hf hn (by rw[hb];rfl),?_⟩;simp only[NT,yb]at Y;have O:=Y.1.1;simp only[Lh,yb]at O;obtain⟨V,hls,rfl⟩:=hle;have hC:=Di htb;have K:=kO.all (w:=w) hM.lab O.1.1.1 hls;have hv':=K.vrs hv;have hr:=(U a).trans hab;unfold LA Oy at hr;rw[hb]at hr;simp only at hr;rw[J]at hr;have hkl:(aB (fM E.a.msh (P2.snd E.a.msh.dflt E.a.sh.un E.a.msh.un a))).length=old.length:=by
  rw[<-J,nC,dO]
 let k1:Ex->St->Option Unit:=λe st=>if∃q,Eg P fn old e st=some q/\Fx E b (j0 old.length q)then some ()else none
 have hlenA:(c6 E.a.sh (P2.fst E.a.sh.dflt E.a.sh.un E.a.msh.un a)).length≤fn.ntmps:=by
  rw[<-aJ,<-K.len,V];exact nl.1 Y.2
 have N:=Gs ht (Ls hto) (n:=n) (m:=fn.ntmps) c Y.1.2 (R1:=Unit) (r1:=()) (k1:=k1) hl (Gv (n:=fn.ntmps) λv hv=>s8 hv)
  (by rw[ym1,List.length_replicate,aJ];omega) hr (λe st' tmps' h1 h2 h3=>?_)
 ·have I:qD (aB (fM E.a.msh (P2.snd E.a.msh.dflt E.a.sh.un E.a.msh.un a)))=old:=(pD _).trans (J _);have:=Nz hC (Lc hm hC an) (n:=n) hf hb (args:=KV.downs (c6 E.a.sh (P2.fst E.a.sh.dflt E.a.sh.un E.a.msh.un a))) (k1:=k1) (r1:=()) (good:=λq=>Fx E b (j0 old.length q)) (λe st h=>by
   rw[I]
   show∃q,Eg P fn old e st=some q/\Fx E b (j0 old.length q)
   by_cases Z: ∃q,Eg P fn old e st=some q/\Fx E b (j0 old.length q)
   ·exact Z
   ·have h:(if∃q,Eg P fn old e st=some q/\Fx E b (j0 old.length q)then some ()else none)=some ():=h;rw[if_neg Z]at h;cases h) (by rw[I,aJ];exact N) hM hg0 hv'
  refine this.mono λe w' Z=>?_;obtain⟨q,hg,G',cv,he,H⟩:=Z;obtain⟨G2,H⟩:=H.settle;rw[hkl]at H;generalize j0 old.length q=q2 at hg H;obtain⟨qv,qm⟩:=q2;obtain⟨M,hg2⟩:=hg;have M:qm=(zZ E b).2:=M;subst M;exact⟨G2,cv,he,hg2 G2 w' cv H.memR.lab H.v,H.ev,H.mine,H.prot,H.new,H.memR,H.gens,H.kept,H.nones⟩
 ·obtain⟨v,mm,h4,h5⟩:=Jj ht h2 h1;have W:sB true E.r .ret ⟨dD [0] [(pP old.length v mm).1],(pP old.length v mm).2⟩=some b:=by
   split at h4
   ·rename_i b' hb';rw[hb',ya h4]
   ·cases h4
  obtain⟨g1,g2⟩:=CX O.2 W;refine if_pos ⟨_,h5,?_⟩;rw[Jx];exact⟨congrArg aB g1.symm,g2⟩
section
variable {tbl:FuncId->List aD} {loops:Nat->Option aT} {an:kQ} {old:List (Option Bool)} {n:Nat} {c:Code}
theorem bC.ofS(hn:mQ P=true)(hm:P.follows .mixedOrders=true)(ht:bL P tab)(hT:BD P tbl){f:FuncId}{fn:Func}(M:P.funcs[f]?=some fn)(O:fn.body=some c){E:aD}
  (K:NT fn c E=true) (J:dB ((eK c 0).map (·.1))=true) (H: ∀d,eV (fM E.a.msh d)=old) (N:LT tab tbl loops an old n c loops)
  (I: ∀a,LA (aQ (dV E.r)) tab tbl loops an fn old.length E.a E.r a some=E.sh a):bC P f E:=
 ⟨by simp only[NT,yb]at K;exact K.1.1,Fz hn hm ht (λg=>yi2.2 λE hE=>(hT g E hE).1) (λg E hE=>(hT g E hE).2) M O K H (N.ok J) I⟩
end
end
end Go.Ab
