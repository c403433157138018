import Derived.Test.YtjjjbgicidhpfaaDoorLib27
set_option linter.unusedVariables false
set_option linter.unusedSectionVars false
set_option linter.unusedSimpArgs false
namespace Go.Ab
variable [b3]
variable {P:Program} {R:Type} {r:R} {tab:TypeId->Option TI} {mem:aE}
theorem E0(ht:bL P tab){env:Nat->KV}{tmps:List AV}(J:eJ env tmps): ∀{rs:List ResultVar} {k:List KV->Option R},KI (aQ R) tab env mem rs k=some r->
  ∃vs,k vs=some r/\Cf P tmps (aB mem) rs=some (KV.downs vs)
 | [],k,h=>⟨[],h,rfl⟩
 | .tmp t::rs,k,h=>by
  simp only[KI]at h;obtain⟨v,I,h,_⟩:=aS J h;obtain⟨vs,h,H⟩:=E0 ht J h;refine⟨v::vs,h,?_⟩;have I:Cg tmps t=some v.down:=I;simp only[Cf,I,H,ye,yh,KV.downs]
 | .cell a t::rs,k,h=>by
  simp only[KI]at h;obtain⟨v,I,h,_⟩:=aS J h;obtain⟨o,h,K⟩:=Gd ht h;obtain⟨vs,h,H⟩:=E0 ht J h;refine⟨o.v::vs,h,?_⟩;have I:Cg tmps a=some v.down:=I;simp only[Cf,I,K,H,ye,yh,KV.downs,a9.down]
theorem FA(vs:List KV):sH (KV.downs vs)=(sX vs).down:=by
 match vs with
 | []=>rfl
 | [v]=>rfl
 |v::w::r=>rfl
theorem Jj(ht:bL P tab){fn:Func}{old:List (Option Bool)}{e:JC}{st:wH}{tmps:List AV}(N:eJ st.env tmps){k:KV->aE->Option R}(h:Pn (aQ R) tab fn old e st k=some r):
  ∃v m,k v m=some r/\Eg P fn old e.down ⟨tmps,aB st.mem⟩=some (v.down,aB m):=by
 have J:(KI (aQ R) tab st.env st.mem fn.results.toList λvs=>AF (aQ R) true old [sX vs] st.mem λws mem'=>(match ws with| [v]=>k v mem'|_=>none))=some r/\(∀id,e≠ .exit id)/\∀l,e≠ .goto l:=by
  cases e with
  |exit id=>cases h
  |goto l=>cases h
  |normal=>exact⟨h,(λ_ h=>by cases h),λ_ h=>by cases h⟩
  |ret=>exact⟨h,(λ_ h=>by cases h),λ_ h=>by cases h⟩
 obtain⟨J,I⟩:=J;obtain⟨vs,O,U⟩:=E0 ht N J;obtain⟨ws,mem',M,K⟩:=x9 O;split at M<;>try contradiction
 rename_i v;refine⟨v,mem',M,?_⟩;have H:((Cf P tmps (aB st.mem) fn.results.toList).bind λvs=>(qV true old [sH vs] (aB st.mem)).bind λq=>
   match q.1 with
   | [v]=>some (v,q.2)
   |_=>none)=some (v.down,aB mem'):=by
  have K:qV true old [(sX vs).down] (aB st.mem)=some ([v.down],aB mem'):=K;rw[U,ye,FA,K];rfl
 cases e with
 |exit id=>exact(I.1 id rfl).elim
 |goto l=>exact(I.2 l rfl).elim
 |normal=>exact H
 |ret=>exact H
theorem Nz{C:bM}(hC:iU P C){an:kQ}(hD:Cz P C an){n:Nat}{f:FuncId}{fn:Func}{args:List AV}{mem:aK}{G:Gh}{w:World}{I:Array Value}(hf:P.funcs[f]?=some fn){c:Code}(hb:fn.body=some c)
  {R1:Type} {r1:R1} {k1:Ex->St->Option R1} {good:AV×aK->Prop} (hk1: ∀e st,k1 e st=some r1->∃q,Eg P fn (qD mem) e st=some q/\good q)
  (h:b7 P C an n (qD mem) c 0 {tmps:=args++List.replicate (fn.ntmps-args.length) (.lit undef),mem} k1=some r1) (hM:aI G w mem) (hg0: ∀(j:Nat) (x:bG),mem[j]?=some (some x)->x.gen=0) (hv:nH G w args I):
  Calls P f I w λe J=> ∃q,good q/\∃G' cv,e= .returned cv/\OE G w mem q G' J cv:=by
  refine calls_of_wp hf hb (Ie hC hD c h (G:=G) ⟨hM,?_,λj x U=>?_,rfl⟩ (Ci.refl G w _) λe V G' J a' H hS hI=>?_)
  ·simp[hv.1]
  ·right;by_cases hj:j<args.length
   ·rw[yn hj]at U;have:=hv.2 j x U;rw[yk,yr2 (by rw[<-hv.1];exact hj),<-yk];exact this
   ·rw[yu (by omega),ya2]at U;split at U
    ·rename_i hlt;obtain rfl:=ya U;rw[yk,Array.getElem?_append_right (by rw[<-hv.1];omega),ya3,if_pos (by rw[<-hv.1];exact hlt)];exact .lit _ rfl
    ·simp at U
  ·obtain⟨r,H,W⟩:=hk1 _ _ H;unfold Eg at H;have key:(Cf P V.tmps V.mem fn.results.toList).bind (λvs=>(qV true (qD mem) [sH vs] V.mem).bind λq=>match q.1 with
      | [v]=>some (v,q.2)
      |_=>none)=some r/\((∃id,e= .exit id)\/(∃l,e= .goto l)->False):=by
    cases e with
    |exit id=>simp at H
    |goto l=>simp at H
    |normal=>exact⟨H,by rintro(⟨_,h⟩|⟨_,h⟩)<;>cases h⟩
    |ret=>exact⟨H,by rintro(⟨_,h⟩|⟨_,h⟩)<;>cases h⟩
   obtain⟨H,hne⟩:=key;rw[bind_some]at H;obtain⟨vs,hvs,H⟩:=H;rw[bind_some]at H;obtain⟨q,hq,H⟩:=H;obtain⟨us,hL,hrun⟩:=wW hS hvs;obtain⟨f',G1,G2,hr,hm,hp,hp1,hM2,hren,Z,M,Y,K⟩:=BH hS.memr hq;rw[hr]at H;simp only[AV.renAll]at H;obtain rfl:=ya H;have hone: ∃cv,(results fn a'.tmps).run P J= .ok cv J/\VR G' J (sH vs) cv:=by
    have hmap:(fn.results.mapM (NJ a'.tmps)).run P J= .ok us.toArray J:=by
     rw[Array.mapM_eq_mapM_toList,Sem.run_map,hrun];rfl
    rw[JK];simp only[Sem.run_bind,hmap,Result.andThen_ok,Sem.run_pure]
    match vs,us,hL with
    | [v],[u],hL=>exact⟨u,by simp,hL.2 0 v rfl⟩
    | [],us,hL=>
     have:=yo hL.1.symm;subst this;exact⟨.tuple #[],by simp,.tup [] #[] rfl (λj y hy=>by simp at hy)⟩
    |v::v'::vs,us,hL=>
     refine⟨.tuple us.toArray,?_,.tup _ _ (by simpa using hL.1) (λj y hy=>by rw[<-dR];exact hL.2 j y hy)⟩;have:us.toArray.size≠1:=by have:=hL.1;simp at this⊢;omega
     rw[dif_neg this]
    | [v],[],hL=>have:=hL.1;simp at this
    | [v],_::_::_,hL=>have:=hL.1;simp at this
   obtain⟨cv,hres,hvr⟩:=hone;have N: ∃v,(results fn a'.tmps).run P J= .ok v J/\∃q',good q'/\∃G' cv,Ending.returned v= .returned cv/\OE G w mem q' G' J cv:=by
    refine⟨cv,hres,_,W,G2,cv,rfl,?_⟩;refine⟨(Z 0 _ _ rfl hvr).ren (l:=true) hren (fun β B o _ hb=>by rw[hp,<-hp1];exact hb) (λ_=>rfl),hI.ev,hm.trans hI.mine,fun β B o h=>by rw[hp];exact hI.prot β B o h,fun β B o h=>hI.new β B o (by rw[hp]at h;exact h),hM2,(λj y h=>Y j y (by simpa[qD]using h)),λj x U=>?_,λj hj=>?_⟩
    ·have O:(qD mem)[j]?=some (some x.row.isCells):=by simp[qD,U]
     obtain⟨y,hy,hyk,hk⟩:=M j _ O;exact⟨y,hy,hyk,λL hL=>hk L (hI.keep j _ O L hL)⟩
    ·exact K j (by simp[qD,hj])
   cases e with
   |exit id=>exact(hne (.inl ⟨id,rfl⟩)).elim
   |goto l=>exact(hne (.inr ⟨l,rfl⟩)).elim
   |normal=>exact⟨hS.defers,N⟩
   |ret=>exact⟨hS.defers,N⟩
def Fx(E:aD)(b:dV E.r)(q:AV×aK):Prop:=q.2=(zZ E b).2/\∀G w cv,(∀B o,Gh.prot G false B o->G.prot true B o)->VR G w q.1 cv->VR G w (zZ E b).1 cv
theorem LW{l:List Nat}(h:Db l=true):l= [0]:=by
 unfold Db at h;split at h
 ·rfl
 ·cases h
theorem Le{s:kN}(U:s.sh.okL=true)(W:Db s.slots=true){v:KV}{m:aE}{d:s.den}(h:mT true s ⟨dD [0] [v],m⟩=some d):
  (qM s d).mem=m/\∀G w cv,(∀B o,Gh.prot G false B o->G.prot true B o)->VR G w v.down cv->VR G w ((qM s d).env 0).down cv:=by
 have O:=LW W;unfold mT at h;split at h<;>try contradiction
 rename_i x J;split at h<;>try contradiction
 rename_i y Y;have N:=ya h;have V:=P2.fst_mk' N;have e2:=P2.snd_mk' N;rw[O]at J;have J:d4 true s.sh [v]=some x:=J;have K:=mY J;refine⟨((z4 Y).trans (congrArg (fM s.msh) e2.symm)).symm,λG w cv Z hv=>?_⟩;have I:=kO.all (w:=w) Z U K;have M:(qM s d).env 0=dD [0] (c6 s.sh x) 0:=by
  show dD s.slots (c6 s.sh (P2.fst s.sh.dflt s.sh.un s.msh.un d)) 0=_;rw[O];exact congrArg (λu=>dD [0] (c6 s.sh u) 0) V
 rw[M];have H:=I.len;rw[aJ]at H;generalize c6 s.sh x=l at I H
 match l,H,I with
 | [u],_,I=>exact I.1 cv hv
theorem CX{v:KV}{m:aE}: ∀{l:List kN} {b:dV l},(l.all λs=>s.sh.okL&&Db s.slots)=true->sB true l .ret ⟨dD [0] [v],m⟩=some b->
  (nP l b).2.mem=m/\∀G w cv,(∀B o,Gh.prot G false B o->G.prot true B o)->VR G w v.down cv->VR G w ((nP l b).2.env 0).down cv
 | [],b,H,h=>by cases h
 | [a],b,H,h=>by
  rw[ye3,yb,yb]at H;have I:(bif Dh a.ex .ret then mT true a ⟨dD [0] [v],m⟩else none)=some b:=h;obtain⟨M,J⟩:=bP.1 I;exact Le H.1.1 H.1.2 J
 |a::K::l,b,H,h=>by
  rw[ye3,yb,yb]at H;have I:(match(bif Dh a.ex .ret then mT true a ⟨dD [0] [v],m⟩else none)with
   |some x=>some (Sum.inl x)
   |none=>(match sB true (K::l) .ret ⟨dD [0] [v],m⟩with|some y=>some (Sum.inr y)|none=>none))=some b:=h
  split at I
  ·rename_i x O;obtain⟨M,J⟩:=bP.1 O;have:=ya I;subst this;exact Le H.1.1 H.1.2 J
  ·split at I<;>try contradiction
   rename_i y N;have:=ya I;subst this;exact CX (l:=K::l) H.2 N
theorem s8: ∀{s:Sh} {d:s.den} {v:KV},v∈c6 s d->v≠ .gone
 | .int _,d,v,h| .bool,d,v,h| .str,d,v,h| .nilS,d,v,h| .nilP,d,v,h| .undef,d,v,h| .sl _ _ _,d,v,h| .el _ _ _ _,d,v,h| .ptr _ _ _ _,d,v,h
 | .ptrI _ _ _,d,v,h| .ms _ _,d,v,h| .msw _ _,d,v,h| .fn _ _ _,d,v,h| .agg _,d,v,h| .tup _,d,v,h=>by
  rw[yb2.1 h];intro h;cases h
 | .nil,d,v,h| .bnone,d,v,h| .bts _ _ _ _ _,d,v,h| .bcells _ _ _ _,d,v,h=>by cases h
 | .cons a b,d,v,h=>by
  have h:v∈c6 a (P2.fst a.dflt a.un b.un d)++c6 b (P2.snd b.dflt a.un b.un d):=h;exact(yn1.1 h).elim (λh=>s8 h) (λh=>s8 h)
theorem Gv{args:List KV}{n:Nat}(J: ∀v∈args,v≠ .gone):eJ (HP args n) (KV.downs args++List.replicate (n-args.length) (.lit undef)):=by
 intro t;unfold HP;rw[a7];cases H:args[t]? with
 |some v=>
  right;simp only;refine⟨?_,?_⟩
  ·have ht:t<args.length:=by
    rcases yd2 t args.length with h|h
    ·exact h
    ·rw[yb1 h]at H;cases H
   rw[a7,yn (by rw[aJ];exact ht),cC,yc1,H];rfl
  ·cases K:fB v.down with
   |false=>rfl
   |true=>exact absurd (mN.1 K) (J v (yt H))
 |none=>
  simp only;have ht:args.length≤t:=by
   rcases yd2 t args.length with h|h
   ·rw[yf h]at H;cases H
   ·exact h
  cases I:Nat.blt t n with
  |false=>left;rfl
  |true=>
   rw[Nat.blt_eq]at I;right;refine⟨?_,rfl⟩;simp only[yl];rw[a7,yu (by rw[aJ];exact ht),ya2,aJ,if_pos (by omega)];rfl
def NT(fn:Func)(c:Code)(E:aD):Bool:=Lh E&&gV fn.ntmps c&&Nat.ble E.a.slots.length fn.ntmps
open Classical in
theorem Ho(hn:mQ P=true)(hm:P.follows .mixedOrders=true)(ht:bL P tab){K:FuncId->List aD}(hto: ∀g,(K g).all Lh=true)(htb: ∀g,∀E∈K g,vI P g E)
  {f:FuncId} {fn:Func} (hf:P.funcs[f]?=some fn) {c:Code} (hb:fn.body=some c) {E:aD} (ho:NT fn c E=true) {an:kQ} {J:Nat->Option aT} {old:List (Option Bool)} {n:Nat}
  (M: ∀d,eV (fM E.a.msh d)=old) (hl:m6 tab K J an old n c 0) (W: ∀a,NW (aQ (dV E.r)) tab K J an fn E.a E.r a some=E.sh a):vI P f E:=by
 intro a b hab G w as m vargs hle hM hg0 hv;refine⟨zU hf hn (by rw[hb];rfl),?_⟩;simp only[NT,yb]at ho;have O:=ho.1.1;simp only[Lh,yb]at O;obtain⟨Z,hls,rfl⟩:=hle;have hC:=Di htb;have N:=kO.all (w:=w) hM.lab O.1.1.1 hls;have hv':=N.vrs hv;have hr:=(W a).trans hab;unfold NW Oy at hr;rw[hb]at hr;simp only at hr;rw[M]at hr
 let k1:Ex->St->Option Unit:=λe st=>if∃q,Eg P fn old e st=some q/\Fx E b q then some ()else none
 have hlenA:(c6 E.a.sh (P2.fst E.a.sh.dflt E.a.sh.un E.a.msh.un a)).length≤fn.ntmps:=by
  rw[<-aJ,<-N.len,Z];exact nl.1 ho.2
 have V:=Gs ht (Ls hto) (n:=n) (m:=fn.ntmps) c ho.1.2 (R1:=Unit) (r1:=()) (k1:=k1) hl (Gv (n:=fn.ntmps) λv hv=>s8 hv)
  (by rw[ym1,List.length_replicate,aJ];omega) hr (λe st' tmps' h1 h2 h3=>?_)
 ·have I:qD (aB (fM E.a.msh (P2.snd E.a.msh.dflt E.a.sh.un E.a.msh.un a)))=old:=(pD _).trans (M _);have:=Nz hC (Lc hm hC an) (n:=n) hf hb (args:=KV.downs (c6 E.a.sh (P2.fst E.a.sh.dflt E.a.sh.un E.a.msh.un a))) (k1:=k1) (r1:=()) (good:=Fx E b) (λe st h=>by
   rw[I]
   show∃q,Eg P fn old e st=some q/\Fx E b q
   by_cases hq: ∃q,Eg P fn old e st=some q/\Fx E b q
   ·exact hq
   ·have h:(if∃q,Eg P fn old e st=some q/\Fx E b q then some ()else none)=some ():=h;rw[if_neg hq]at h;cases h) (by rw[I,aJ];exact V) hM hg0 hv'
  refine this.mono λe w' hq=>?_;obtain⟨q,hg,G',cv,he,H⟩:=hq;obtain⟨qv,qm⟩:=q;obtain⟨U,hg2⟩:=hg;have U:qm=(zZ E b).2:=U;subst U;exact⟨G',cv,he,hg2 G' w' cv H.memR.lab H.v,H.ev,H.mine,H.prot,H.new,H.memR,H.gens,H.kept,H.nones⟩
 ·obtain⟨v,mm,h4,h5⟩:=Jj ht h2 h1;have Y:sB true E.r .ret ⟨dD [0] [v],mm⟩=some b:=by
   split at h4
   ·rename_i b' hb';rw[hb',ya h4]
   ·cases h4
  obtain⟨g1,g2⟩:=CX O.2 Y;refine if_pos ⟨_,h5,?_,?_⟩
  ·exact congrArg aB g1.symm
  ·exact g2
end Go.Ab
