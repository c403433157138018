import Derived.Test.YtjjjbgicidhpfaaDoorLib28
set_option linter.unusedVariables false
set_option linter.unusedSectionVars false
set_option linter.unusedSimpArgs false
namespace Go.Ab
variable [cF]
variable {P:Program} {R:Type} {r:R} {tab:TypeId->Option TI} {mem:aF}
theorem GX(ht:bT P tab){env:Nat->KV}{tmps:List AV}(K:fJ env tmps): ∀{rs:List ResultVar} {k:List KV->Option R},Oo (aS R) tab env mem rs k=some r->
  ∃vs,k vs=some r/\Fz P tmps (aB mem) rs=some (KV.downs vs)
 | [],k,h=>⟨[],h,rfl⟩
 | .tmp t::rs,k,h=>by
  simp only[Oo]at h;obtain⟨v,J,h,_⟩:=aU K h;obtain⟨vs,h,H⟩:=GX ht K h;refine⟨v::vs,h,?_⟩;have J:Fo tmps t=some v.down:=J;simp only[Fz,J,H,yb,yl,KV.downs]
 | .cell a t::rs,k,h=>by
  simp only[Oo]at h;obtain⟨v,J,h,_⟩:=aU K h;obtain⟨o,h,M⟩:=Ip ht h;obtain⟨vs,h,H⟩:=GX ht K h;refine⟨o.v::vs,h,?_⟩;have J:Fo tmps a=some v.down:=J;simp only[Fz,J,M,H,yb,yl,KV.downs,bC.down]
theorem Ib(vs:List KV):yV (KV.downs vs)=(zO vs).down:=by
 match vs with
 | []=>rfl
 | [v]=>rfl
 |v::w::r=>rfl
theorem Lz(ht:bT P tab){fn:Func}{old:List (Option Bool)}{e:MX}{st:zX}{tmps:List AV}(V:fJ st.env tmps){k:KV->aF->Option R}(h:UZ (aS R) tab fn old e st k=some r):
  ∃v m,k v m=some r/\GV P fn old e.down ⟨tmps,aB st.mem⟩=some (v.down,aB m):=by
 have K:(Oo (aS R) tab st.env st.mem fn.results.toList λvs=>Cp (aS R) true old [zO vs] st.mem λws mem'=>(match ws with| [v]=>k v mem'|_=>none))=some r/\(∀id,e≠ .exit id)/\∀l,e≠ .goto l:=by
  cases e with
  |exit id=>cases h
  |goto l=>cases h
  |normal=>exact⟨h,(λ_ h=>by cases h),λ_ h=>by cases h⟩
  |ret=>exact⟨h,(λ_ h=>by cases h),λ_ h=>by cases h⟩
 obtain⟨K,H⟩:=K;obtain⟨vs,O,U⟩:=GX ht V K;obtain⟨ws,mem',N,M⟩:=AC O;split at N<;>try contradiction
 rename_i v;refine⟨v,mem',N,?_⟩
 have J:((Fz P tmps (aB st.mem) fn.results.toList).bind λvs=>(wC true old [yV vs] (aB st.mem)).bind λq=>
   match q.1 with
   | [v]=>some (v,q.2)
   |_=>none)=some (v.down,aB mem'):=by
  have M:wC true old [(zO vs).down] (aB st.mem)=some ([v.down],aB mem'):=M;rw[U,yb,Ib,M];rfl
 cases e with
 |exit id=>exact(H.1 id rfl).elim
 |goto l=>exact(H.2 l rfl).elim
 |normal=>exact J
 |ret=>exact J
theorem R6{C:bX}(hC:kW P C){an:nB}(hD:FG P C an){n:Nat}{f:FuncId}{fn:Func}{args:List AV}{mem:aK}{G:Gh}{w:World}{J:Array Value}(hf:P.funcs[f]?=some fn){c:Code}(hb:fn.body=some c)
  {R1:Type} {r1:R1} {k1:Ex->St->Option R1} {good:AV×aK->Prop} (hk1: ∀e st,k1 e st=some r1->∃q,GV P fn (vD mem) e st=some q/\good q)
  (h:cK P C an n (vD mem) c 0 {tmps:=args++List.replicate (fn.ntmps-args.length) (.lit undef),mem} k1=some r1) (hM:aH G w mem) (hg0: ∀(j:Nat) (x:bK),mem[j]?=some (some x)->x.gen=0) (hv:pY G w args J):
  Calls P f J w λe K=> ∃q,good q/\∃G' cv,e= .returned cv/\TW G w mem q G' K cv:=by
  refine calls_of_wp hf hb (KT hC hD c h (G:=G) ⟨hM,?_,λj x V=>?_,rfl⟩ (FB.refl G w _) λe W G' K a' H hS hI=>?_)
  ·simp[hv.1]
  ·right;by_cases hj:j<args.length
   ·rw[yq hj]at V;have:=hv.2 j x V;rw[yp,yi3 (by rw[<-hv.1];exact hj),<-yp];exact this
   ·rw[yx (by omega),yu1]at V;split at V
    ·rename_i hlt;obtain rfl:=ya V;rw[yp,Array.getElem?_append_right (by rw[<-hv.1];omega),yw3,if_pos (by rw[<-hv.1];exact hlt)];exact .lit _ rfl
    ·simp at V
  ·obtain⟨r,H,Z⟩:=hk1 _ _ H;unfold GV at H
   have key:(Fz P W.tmps W.mem fn.results.toList).bind (λvs=>(wC true (vD mem) [yV vs] W.mem).bind λq=>match q.1 with
      | [v]=>some (v,q.2)
      |_=>none)=some r/\((∃id,e= .exit id)\/(∃l,e= .goto l)->False):=by
    cases e with
    |exit id=>simp at H
    |goto l=>simp at H
    |normal=>exact⟨H,by rintro(⟨_,h⟩|⟨_,h⟩)<;>cases h⟩
    |ret=>exact⟨H,by rintro(⟨_,h⟩|⟨_,h⟩)<;>cases h⟩
   obtain⟨H,hne⟩:=key;rw[bind_some]at H;obtain⟨vs,hvs,H⟩:=H;rw[bind_some]at H;obtain⟨q,hq,H⟩:=H;obtain⟨us,hL,hrun⟩:=AU hS hvs;obtain⟨f',G1,G2,hr,hm,hp,hp1,hM2,hren,hvals,N,Y,M⟩:=Ed hS.memr hq;rw[hr]at H;simp only[AV.renAll]at H;obtain rfl:=ya H;have hone: ∃cv,(results fn a'.tmps).run P K= .ok cv K/\VR G' K (yV vs) cv:=by
    have hmap:(fn.results.mapM (RU a'.tmps)).run P K= .ok us.toArray K:=by
     rw[Array.mapM_eq_mapM_toList,Sem.run_map,hrun];rfl
    rw[Nx];simp only[Sem.run_bind,hmap,Result.andThen_ok,Sem.run_pure]
    match vs,us,hL with
    | [v],[u],hL=>exact⟨u,by simp,hL.2 0 v rfl⟩
    | [],us,hL=>
     have:=yu hL.1.symm;subst this;exact⟨.tuple #[],by simp,.tup [] #[] rfl (λj y hy=>by simp at hy)⟩
    |v::v'::vs,us,hL=>
     refine⟨.tuple us.toArray,?_,.tup _ _ (by simpa using hL.1) (λj y hy=>by rw[<-eL];exact hL.2 j y hy)⟩;have:us.toArray.size≠1:=by have:=hL.1;simp at this⊢;omega
     rw[dif_neg this]
    | [v],[],hL=>have:=hL.1;simp at this
    | [v],_::_::_,hL=>have:=hL.1;simp at this
   obtain⟨cv,hres,hvr⟩:=hone;have O: ∃v,(results fn a'.tmps).run P K= .ok v K/\∃q',good q'/\∃G' cv,Ending.returned v= .returned cv/\TW G w mem q' G' K cv:=by
    refine⟨cv,hres,_,Z,G2,cv,rfl,?_⟩;refine⟨(hvals 0 _ _ rfl hvr).ren (l:=true) hren (fun β B o _ hb=>by rw[hp,<-hp1];exact hb) (λ_=>rfl),hI.ev,hm.trans hI.mine,fun β B o h=>by rw[hp];exact hI.prot β B o h,fun β B o h=>hI.new β B o (by rw[hp]at h;exact h),hM2,(λj y h=>Y j y (by simpa[vD]using h)),λj x V=>?_,λj hj=>?_⟩
    ·have U:(vD mem)[j]?=some (some x.row.isCells):=by simp[vD,V]
     obtain⟨y,hy,hyk,hk⟩:=N j _ U;exact⟨y,hy,hyk,λL hL=>hk L (hI.keep j _ U L hL)⟩
    ·exact M j (by simp[vD,hj])
   cases e with
   |exit id=>exact(hne (.inl ⟨id,rfl⟩)).elim
   |goto l=>exact(hne (.inr ⟨l,rfl⟩)).elim
   |normal=>exact⟨hS.defers,O⟩
   |ret=>exact⟨hS.defers,O⟩
def H9(E:aE)(b:eN E.r)(q:AV×aK):Prop:=q.2=(Cj E b).2/\∀G w cv,(∀B o,Gh.prot G false B o->G.prot true B o)->VR G w q.1 cv->VR G w (Cj E b).1 cv
theorem Q0{l:List Nat}(h:HZ l=true):l= [0]:=by
 unfold HZ at h;split at h
 ·rfl
 ·cases h
theorem OY{s:mT}(h1:s.sh.okL=true)(V:HZ s.slots=true){v:KV}{m:aF}{d:s.den}(h:o5 true s ⟨dW [0] [v],m⟩=some d):
  (wK s d).mem=m/\∀G w cv,(∀B o,Gh.prot G false B o->G.prot true B o)->VR G w v.down cv->VR G w ((wK s d).env 0).down cv:=by
 have U:=Q0 V;unfold o5 at h;split at h<;>try contradiction
 rename_i x K;split at h<;>try contradiction
 rename_i y W;have O:=ya h;have e1:=P2.fst_mk' O;have Y:=P2.snd_mk' O;rw[U]at K;have K:eU true s.sh [v]=some x:=K;have N:=pP K;refine⟨((BJ W).trans (congrArg (gX s.msh) Y.symm)).symm,λG w cv hl Z=>?_⟩;have J:=m8.all (w:=w) hl h1 N;have M:(wK s d).env 0=dW [0] (dN s.sh x) 0:=by
  show dW s.slots (dN s.sh (P2.fst s.sh.dflt s.sh.un s.msh.un d)) 0=_;rw[U];exact congrArg (λu=>dW [0] (dN s.sh u) 0) e1
 rw[M];have H:=J.len;rw[aJ]at H;generalize dN s.sh x=l at J H
 match l,H,J with
 | [u],_,J=>exact J.1 cv Z
theorem Hr{v:KV}{m:aF}: ∀{l:List mT} {b:eN l},(l.all λs=>s.sh.okL&&HZ s.slots)=true->wT true l .ret ⟨dW [0] [v],m⟩=some b->
  (qD l b).2.mem=m/\∀G w cv,(∀B o,Gh.prot G false B o->G.prot true B o)->VR G w v.down cv->VR G w ((qD l b).2.env 0).down cv
 | [],b,H,h=>by cases h
 | [a],b,H,h=>by
  rw[ym3,yc,yc]at H;have J:(bif Gm a.ex .ret then o5 true a ⟨dW [0] [v],m⟩else none)=some b:=h;obtain⟨U,K⟩:=bZ.1 J;exact OY H.1.1 H.1.2 K
 |a::M::l,b,H,h=>by
  rw[ym3,yc,yc]at H
  have J:(match(bif Gm a.ex .ret then o5 true a ⟨dW [0] [v],m⟩else none)with
   |some x=>some (Sum.inl x)
   |none=>(match wT true (M::l) .ret ⟨dW [0] [v],m⟩with|some y=>some (Sum.inr y)|none=>none))=some b:=h
  split at J
  ·rename_i x O;obtain⟨U,K⟩:=bZ.1 O;have:=ya J;subst this;exact OY H.1.1 H.1.2 K
  ·split at J<;>try contradiction
   rename_i y N;have:=ya J;subst this;exact Hr (l:=M::l) H.2 N
theorem zC: ∀{s:Sh} {d:s.den} {v:KV},v∈dN s d->v≠ .gone
 | .int _,d,v,h| .bool,d,v,h| .str,d,v,h| .nilS,d,v,h| .nilP,d,v,h| .undef,d,v,h| .sl _ _ _,d,v,h| .el _ _ _ _,d,v,h| .ptr _ _ _ _,d,v,h
 | .ptrI _ _ _,d,v,h| .ms _ _,d,v,h| .msw _ _,d,v,h| .fn _ _ _,d,v,h| .agg _,d,v,h| .tup _,d,v,h=>by
  rw[yh1.1 h];intro h;cases h
 | .nil,d,v,h| .bnone,d,v,h| .bts _ _ _ _ _,d,v,h| .bcells _ _ _ _,d,v,h=>by cases h
 | .cons a b,d,v,h=>by
  have h:v∈dN a (P2.fst a.dflt a.un b.un d)++dN b (P2.snd b.dflt a.un b.un d):=h;exact(yn1.1 h).elim (λh=>zC h) (λh=>zC h)
theorem Jk{args:List KV}{n:Nat}(K: ∀v∈args,v≠ .gone):fJ (J7 args n) (KV.downs args++List.replicate (n-args.length) (.lit undef)):=by
 intro t;unfold J7;rw[bA];cases H:args[t]? with
 |some v=>
  right;simp only;refine⟨?_,?_⟩
  ·have ht:t<args.length:=by
    rcases yl2 t args.length with h|h
    ·exact h
    ·rw[yd1 h]at H;cases H
   rw[bA,yq (by rw[aJ];exact ht),cQ,yg1,H];rfl
  ·cases M:gK v.down with
   |false=>rfl
   |true=>exact absurd (pF.1 M) (K v (yk H))
 |none=>
  simp only;have ht:args.length≤t:=by
   rcases yl2 t args.length with h|h
   ·rw[yf h]at H;cases H
   ·exact h
  cases J:Nat.blt t n with
  |false=>left;rfl
  |true=>
   rw[Nat.blt_eq]at J;right;refine⟨?_,rfl⟩;simp only[yg];rw[bA,yx (by rw[aJ];exact ht),yu1,aJ,if_pos (by omega)];rfl
def SG(fn:Func)(c:Code)(E:aE):Bool:=Pf E&&jO fn.ntmps c&&Nat.ble E.a.slots.length fn.ntmps
open Classical in
theorem Kq(hn:pU P=true)(hm:P.follows .mixedOrders=true)(ht:bT P tab){M:FuncId->List aE}(hto: ∀g,(M g).all Pf=true)(htb: ∀g,∀E∈M g,y3 P g E)
  {f:FuncId} {fn:Func} (hf:P.funcs[f]?=some fn) {c:Code} (hb:fn.body=some c) {E:aE} (ho:SG fn c E=true) {an:nB} {K:Nat->Option aT} {old:List (Option Bool)} {n:Nat}
  (N: ∀d,f8 (gX E.a.msh d)=old) (hl:pR tab M K an old n c 0) (hrun: ∀a,To (aS (eN E.r)) tab M K an fn E.a E.r a some=E.sh a):y3 P f E:=by
 intro a b hab G w as m vargs hle hM hg0 hv;refine⟨BF hf hn (by rw[hb];rfl),?_⟩;simp only[SG,yc]at ho;have V:=ho.1.1;simp only[Pf,yc]at V;obtain⟨Y,hls,rfl⟩:=hle;have hC:=F8 htb;have O:=m8.all (w:=w) hM.lab V.1.1.1 hls;have hv':=O.vrs hv;have hr:=(hrun a).trans hab;unfold To TN at hr;rw[hb]at hr;simp only at hr;rw[N]at hr
 let k1:Ex->St->Option Unit:=λe st=>if∃q,GV P fn old e st=some q/\H9 E b q then some ()else none
 have hlenA:(dN E.a.sh (P2.fst E.a.sh.dflt E.a.sh.un E.a.msh.un a)).length≤fn.ntmps:=by
  rw[<-aJ,<-O.len,Y];exact nl.1 ho.2
 have W:=Ir ht (OK hto) (n:=n) (m:=fn.ntmps) c ho.1.2 (R1:=Unit) (r1:=()) (k1:=k1) hl (Jk (n:=fn.ntmps) λv hv=>zC hv)
  (by rw[yi,yj3,aJ];omega) hr (λe st' tmps' h1 h2 h3=>?_)
 ·have J:vD (aB (gX E.a.msh (P2.snd E.a.msh.dflt E.a.sh.un E.a.msh.un a)))=old:=(r5 _).trans (N _)
  have:=R6 hC (OO hm hC an) (n:=n) hf hb (args:=KV.downs (dN E.a.sh (P2.fst E.a.sh.dflt E.a.sh.un E.a.msh.un a))) (k1:=k1) (r1:=()) (good:=H9 E b) (λe st h=>by
   rw[J]
   show∃q,GV P fn old e st=some q/\H9 E b q
   by_cases hq: ∃q,GV P fn old e st=some q/\H9 E b q
   ·exact hq
   ·have h:(if∃q,GV P fn old e st=some q/\H9 E b q then some ()else none)=some ():=h
    rw[if_neg hq]at h;cases h) (by rw[J,aJ];exact W) hM hg0 hv'
  refine this.mono λe w' hq=>?_;obtain⟨q,hg,G',cv,he,H⟩:=hq;obtain⟨qv,qm⟩:=q;obtain⟨U,hg2⟩:=hg;have U:qm=(Cj E b).2:=U;subst U;exact⟨G',cv,he,hg2 G' w' cv H.memR.lab H.v,H.ev,H.mine,H.prot,H.new,H.memR,H.gens,H.kept,H.nones⟩
 ·obtain⟨v,mm,h4,h5⟩:=Lz ht h2 h1;have Z:wT true E.r .ret ⟨dW [0] [v],mm⟩=some b:=by
   split at h4
   ·rename_i b' hb';rw[hb',ya h4]
   ·cases h4
  obtain⟨g1,g2⟩:=Hr V.2 Z;refine if_pos ⟨_,h5,?_,?_⟩
  ·exact congrArg aB g1.symm
  ·exact g2
end Go.Ab
