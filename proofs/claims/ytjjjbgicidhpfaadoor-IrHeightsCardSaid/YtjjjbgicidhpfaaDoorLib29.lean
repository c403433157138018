import Derived.Test.YtjjjbgicidhpfaaDoorLib28
set_option linter.unusedVariables false
set_option linter.unusedSectionVars false
set_option linter.unusedSimpArgs false
namespace Go.Ab
variable [cS]
variable {P:Program} {R:Type} {r:R} {tab:TypeId->Option TI} {mem:aH}
theorem Jr(ht:b9 P tab){env:Nat->KV}{tmps:List AV}(K:gJ env tmps): ∀{rs:List ResultVar} {k:List KV->Option R},Pq (aZ R) tab env mem rs k=some r->
  ∃vs,k vs=some r/\Hh P tmps (aD mem) rs=some (KV.downs vs)
 | [],k,h=>⟨[],h,rfl⟩
 | .tmp t::rs,k,h=>by
  simp only[Pq]at h;obtain⟨v,J,h,_⟩:=a8 K h;obtain⟨vs,h,H⟩:=Jr ht K h;refine⟨v::vs,h,?_⟩;have J:He tmps t=some v.down:=J;simp only[Hh,J,H,ya,yl,KV.downs]
 | .cell a t::rs,k,h=>by
  simp only[Pq]at h;obtain⟨v,J,h,_⟩:=a8 K h;obtain⟨o,h,M⟩:=KE ht h;obtain⟨vs,h,H⟩:=Jr ht K h;refine⟨o.v::vs,h,?_⟩;have J:He tmps a=some v.down:=J;simp only[Hh,J,M,H,ya,yl,KV.downs,bK.down]
theorem J5(vs:List KV):Am (KV.downs vs)=(A2 vs).down:=by
 match vs with
 | []=>rfl
 | [v]=>rfl
 |v::w::r=>rfl
theorem OS(ht:b9 P tab){fn:Func}{old:List (Option Bool)}{e:O3}{st:BC}{tmps:List AV}(V:gJ st.env tmps){k:KV->aH->Option R}(h:WO (aZ R) tab fn old e st k=some r):
  ∃v m,k v m=some r/\HK P fn old e.down ⟨tmps,aD st.mem⟩=some (v.down,aD m):=by
 have M:(Pq (aZ R) tab st.env st.mem fn.results.toList λvs=>E1 (aZ R) true old [A2 vs] st.mem λws mem'=>(match ws with| [v]=>k v mem'|_=>none))=some r/\(∀id,e≠ .exit id)/\∀l,e≠ .goto l:=by
  cases e with
  |exit id=>cases h
  |goto l=>cases h
  |normal=>exact⟨h,(λ_ h=>by cases h),λ_ h=>by cases h⟩
  |ret=>exact⟨h,(λ_ h=>by cases h),λ_ h=>by cases h⟩
 obtain⟨M,H⟩:=M;obtain⟨vs,U,O⟩:=Jr ht V M;obtain⟨ws,mem',N,K⟩:=Cz U;split at N<;>try contradiction
 rename_i v;refine⟨v,mem',N,?_⟩
 have J:((Hh P tmps (aD st.mem) fn.results.toList).bind λvs=>(At true old [Am vs] (aD st.mem)).bind λq=>
   match q.1 with
   | [v]=>some (v,q.2)
   |_=>none)=some (v.down,aD mem'):=by
  have K:At true old [(A2 vs).down] (aD st.mem)=some ([v.down],aD mem'):=K;rw[O,ya,J5,K];rfl
 cases e with
 |exit id=>exact(H.1 id rfl).elim
 |goto l=>exact(H.2 l rfl).elim
 |normal=>exact J
 |ret=>exact J
theorem Tf{C:cC}(hC:mI P C){an:o5}(hD:HD P C an){n:Nat}{f:FuncId}{fn:Func}{args:List AV}{mem:aO}{G:Gh}{w:World}{J:Array Value}(hf:P.funcs[f]?=some fn){c:Code}(hb:fn.body=some c)
  {R1:Type} {r1:R1} {k1:Ex->St->Option R1} {good:AV×aO->Prop} (hk1: ∀e st,k1 e st=some r1->∃q,HK P fn (x9 mem) e st=some q/\good q)
  (h:cX P C an n (x9 mem) c 0 {tmps:=args++List.replicate (fn.ntmps-args.length) (.lit undef),mem} k1=some r1) (hM:aJ G w mem) (hg0: ∀(j:Nat) (x:bV),mem[j]?=some (some x)->x.gen=0) (hv:rZ G w args J):
  Calls P f J w λe K=> ∃q,good q/\∃G' cv,e= .returned cv/\V3 G w mem q G' K cv:=by
  refine calls_of_wp hf hb (Nf hC hD c h (G:=G) ⟨hM,?_,λj x V=>?_,rfl⟩ (Hb.refl G w _) λe st' G' K a' H hS hI=>?_)
  ·simp[hv.1]
  ·right;by_cases hj:j<args.length
   ·rw[yq hj]at V;have:=hv.2 j x V;rw[yo,ym3 (by rw[<-hv.1];exact hj),<-yo];exact this
   ·rw[yy (by omega),yt1]at V;split at V
    ·rename_i hlt;obtain rfl:=yb V;rw[yo,Array.getElem?_append_right (by rw[<-hv.1];omega),yx3,if_pos (by rw[<-hv.1];exact hlt)];exact .lit _ rfl
    ·simp at V
  ·obtain⟨r,H,Y⟩:=hk1 _ _ H;unfold HK at H
   have key:(Hh P st'.tmps st'.mem fn.results.toList).bind (λvs=>(At true (x9 mem) [Am vs] st'.mem).bind λq=>match q.1 with
      | [v]=>some (v,q.2)
      |_=>none)=some r/\((∃id,e= .exit id)\/(∃l,e= .goto l)->False):=by
    cases e with
    |exit id=>simp at H
    |goto l=>simp at H
    |normal=>exact⟨H,by rintro(⟨_,h⟩|⟨_,h⟩)<;>cases h⟩
    |ret=>exact⟨H,by rintro(⟨_,h⟩|⟨_,h⟩)<;>cases h⟩
   obtain⟨H,hne⟩:=key;rw[bind_some]at H;obtain⟨vs,hvs,H⟩:=H;rw[bind_some]at H;obtain⟨q,hq,H⟩:=H;obtain⟨us,hL,hrun⟩:=Ct hS hvs;obtain⟨f',G1,G2,hr,hm,hp,hp1,hM2,hren,W,N,Z,M⟩:=GH hS.memr hq;rw[hr]at H;simp only[AV.renAll]at H;obtain rfl:=yb H;have hone: ∃cv,(results fn a'.tmps).run P K= .ok cv K/\VR G' K (Am vs) cv:=by
    have hmap:(fn.results.mapM (S5 a'.tmps)).run P K= .ok us.toArray K:=by
     rw[Array.mapM_eq_mapM_toList,Sem.run_map,hrun];rfl
    rw[Qh];simp only[Sem.run_bind,hmap,Result.andThen_ok,Sem.run_pure]
    match vs,us,hL with
    | [v],[u],hL=>exact⟨u,by simp,hL.2 0 v rfl⟩
    | [],us,hL=>
     have:=yu hL.1.symm;subst this;exact⟨.tuple #[],by simp,.tup [] #[] rfl (λj y hy=>by simp at hy)⟩
    |v::v'::vs,us,hL=>
     refine⟨.tuple us.toArray,?_,.tup _ _ (by simpa using hL.1) (λj y hy=>by rw[<-fA];exact hL.2 j y hy)⟩;have:us.toArray.size≠1:=by have:=hL.1;simp at this⊢;omega
     rw[dif_neg this]
    | [v],[],hL=>have:=hL.1;simp at this
    | [v],_::_::_,hL=>have:=hL.1;simp at this
   obtain⟨cv,hres,hvr⟩:=hone;have O: ∃v,(results fn a'.tmps).run P K= .ok v K/\∃q',good q'/\∃G' cv,Ending.returned v= .returned cv/\V3 G w mem q' G' K cv:=by
    refine⟨cv,hres,_,Y,G2,cv,rfl,?_⟩;refine⟨(W 0 _ _ rfl hvr).ren (l:=true) hren (fun β B o _ hb=>by rw[hp,<-hp1];exact hb) (λ_=>rfl),hI.ev,hm.trans hI.mine,fun β B o h=>by rw[hp];exact hI.prot β B o h,fun β B o h=>hI.new β B o (by rw[hp]at h;exact h),hM2,(λj y h=>Z j y (by simpa[x9]using h)),λj x V=>?_,λj hj=>?_⟩
    ·have U:(x9 mem)[j]?=some (some x.row.isCells):=by simp[x9,V]
     obtain⟨y,hy,hyk,hk⟩:=N j _ U;exact⟨y,hy,hyk,λL hL=>hk L (hI.keep j _ U L hL)⟩
    ·exact M j (by simp[x9,hj])
   cases e with
   |exit id=>exact(hne (.inl ⟨id,rfl⟩)).elim
   |goto l=>exact(hne (.inr ⟨l,rfl⟩)).elim
   |normal=>exact⟨hS.defers,O⟩
   |ret=>exact⟨hS.defers,O⟩
def J6(E:aG)(b:fG E.r)(q:AV×aO):Prop:=q.2=(D8 E b).2/\∀G w cv,(∀B o,Gh.prot G false B o->G.prot true B o)->VR G w q.1 cv->VR G w (D8 E b).1 cv
theorem RO{l:List Nat}(h:In l=true):l= [0]:=by
 unfold In at h;split at h
 ·rfl
 ·cases h
theorem Rr{s:oU}(Z:s.sh.okL=true)(W:In s.slots=true){v:KV}{m:aH}{d:s.den}(h:rL true s ⟨eK [0] [v],m⟩=some d):
  (zK s d).mem=m/\∀G w cv,(∀B o,Gh.prot G false B o->G.prot true B o)->VR G w v.down cv->VR G w ((zK s d).env 0).down cv:=by
 have O:=RO W;unfold rL at h;split at h<;>try contradiction
 rename_i x K;split at h<;>try contradiction
 rename_i y hy;have U:=yb h;have Y:=P2.fst_mk' U;have V:=P2.snd_mk' U;rw[O]at K;have K:fQ true s.sh [v]=some x:=K;have M:=rH K;refine⟨((Ed hy).trans (congrArg (jC s.msh) V.symm)).symm,λG w cv hl hv=>?_⟩;have J:=oS.all (w:=w) hl Z M;have N:(zK s d).env 0=eK [0] (eD s.sh x) 0:=by
  show eK s.slots (eD s.sh (P2.fst s.sh.dflt s.sh.un s.msh.un d)) 0=_;rw[O];exact congrArg (λu=>eK [0] (eD s.sh u) 0) Y
 rw[N];have H:=J.len;rw[aN]at H;generalize eD s.sh x=l at J H
 match l,H,J with
 | [u],_,J=>exact J.1 cv hv
theorem JA{v:KV}{m:aH}: ∀{l:List oU} {b:fG l},(l.all λs=>s.sh.okL&&In s.slots)=true->Ap true l .ret ⟨eK [0] [v],m⟩=some b->
  (sG l b).2.mem=m/\∀G w cv,(∀B o,Gh.prot G false B o->G.prot true B o)->VR G w v.down cv->VR G w ((sG l b).2.env 0).down cv
 | [],b,H,h=>by cases h
 | [a],b,H,h=>by
  rw[yn3,yc,yc]at H;have J:(bif HU a.ex .ret then rL true a ⟨eK [0] [v],m⟩else none)=some b:=h;obtain⟨O,K⟩:=cJ.1 J;exact Rr H.1.1 H.1.2 K
 |a::M::l,b,H,h=>by
  rw[yn3,yc,yc]at H
  have J:(match(bif HU a.ex .ret then rL true a ⟨eK [0] [v],m⟩else none)with
   |some x=>some (Sum.inl x)
   |none=>(match Ap true (M::l) .ret ⟨eK [0] [v],m⟩with|some y=>some (Sum.inr y)|none=>none))=some b:=h
  split at J
  ·rename_i x N;obtain⟨O,K⟩:=cJ.1 N;have:=yb J;subst this;exact Rr H.1.1 H.1.2 K
  ·split at J<;>try contradiction
   rename_i y U;have:=yb J;subst this;exact JA (l:=M::l) H.2 U
theorem A1: ∀{s:Sh} {d:s.den} {v:KV},v∈eD s d->v≠ .gone
 | .int _,d,v,h| .bool,d,v,h| .str,d,v,h| .nilS,d,v,h| .nilP,d,v,h| .undef,d,v,h| .sl _ _ _,d,v,h| .el _ _ _ _,d,v,h| .ptr _ _ _ _,d,v,h
 | .ptrI _ _ _,d,v,h| .ms _ _,d,v,h| .msw _ _,d,v,h| .fn _ _ _,d,v,h| .agg _,d,v,h| .tup _,d,v,h=>by
  rw[yi1.1 h];intro h;cases h
 | .nil,d,v,h| .bnone,d,v,h| .bts _ _ _ _ _,d,v,h| .bcells _ _ _ _,d,v,h=>by cases h
 | .cons a b,d,v,h=>by
  have h:v∈eD a (P2.fst a.dflt a.un b.un d)++eD b (P2.snd b.dflt a.un b.un d):=h;exact(yr1.1 h).elim (λh=>A1 h) (λh=>A1 h)
theorem K1{args:List KV}{n:Nat}(M: ∀v∈args,v≠ .gone):gJ (Lv args n) (KV.downs args++List.replicate (n-args.length) (.lit undef)):=by
 intro t;unfold Lv;rw[bH];cases H:args[t]? with
 |some v=>
  right;simp only;refine⟨?_,?_⟩
  ·have ht:t<args.length:=by
    rcases yq2 t args.length with h|h
    ·exact h
    ·rw[yc1 h]at H;cases H
   rw[bH,yq (by rw[aN];exact ht),dD,yh1,H];rfl
  ·cases K:iP v.down with
   |false=>rfl
   |true=>exact absurd (rA.1 K) (M v (yj H))
 |none=>
  simp only;have ht:args.length≤t:=by
   rcases yq2 t args.length with h|h
   ·rw[ye h]at H;cases H
   ·exact h
  cases J:Nat.blt t n with
  |false=>left;rfl
  |true=>
   rw[Nat.blt_eq]at J;right;refine⟨?_,rfl⟩;simp only[yh];rw[bH,yy (by rw[aN];exact ht),yt1,aN,if_pos (by omega)];rfl
def UC(fn:Func)(c:Code)(E:aG):Bool:=Q7 E&&lA fn.ntmps c&&Nat.ble E.a.slots.length fn.ntmps
open Classical in
theorem Lf(hn:rF P=true)(hm:P.follows .mixedOrders=true)(ht:b9 P tab){M:FuncId->List aG}(hto: ∀g,(M g).all Q7=true)(htb: ∀g,∀E∈M g,AF P g E)
  {f:FuncId} {fn:Func} (hf:P.funcs[f]?=some fn) {c:Code} (hb:fn.body=some c) {E:aG} (ho:UC fn c E=true) {an:o5} {K:Nat->Option aQ} {old:List (Option Bool)} {n:Nat}
  (O: ∀d,iD (jC E.a.msh d)=old) (hl:rM tab M K an old n c 0) (Y: ∀a,US (aZ (fG E.r)) tab M K an fn E.a E.r a some=E.sh a):AF P f E:=by
 intro a b hab G w as m vargs hle hM hg0 hv;refine⟨Dv hf hn (by rw[hb];rfl),?_⟩;simp only[UC,yc]at ho;have U:=ho.1.1;simp only[Q7,yc]at U;obtain⟨Z,hls,rfl⟩:=hle;have hC:=JI htb;have N:=oS.all (w:=w) hM.lab U.1.1.1 hls;have hv':=N.vrs hv;have hr:=(Y a).trans hab;unfold US UN at hr;rw[hb]at hr;simp only at hr;rw[O]at hr
 let k1:Ex->St->Option Unit:=λe st=>if∃q,HK P fn old e st=some q/\J6 E b q then some ()else none
 have hlenA:(eD E.a.sh (P2.fst E.a.sh.dflt E.a.sh.un E.a.msh.un a)).length≤fn.ntmps:=by
  rw[<-aN,<-N.len,Z];exact nl.1 ho.2
 have V:=Ki ht (Re hto) (n:=n) (m:=fn.ntmps) c ho.1.2 (R1:=Unit) (r1:=()) (k1:=k1) hl (K1 (n:=fn.ntmps) λv hv=>A1 hv)
  (by rw[yi,yi3,aN];omega) hr (λe st' tmps' h1 h2 h3=>?_)
 ·have J:x9 (aD (jC E.a.msh (P2.snd E.a.msh.dflt E.a.sh.un E.a.msh.un a)))=old:=(vS _).trans (O _)
  have:=Tf hC (Ro hm hC an) (n:=n) hf hb (args:=KV.downs (eD E.a.sh (P2.fst E.a.sh.dflt E.a.sh.un E.a.msh.un a))) (k1:=k1) (r1:=()) (good:=J6 E b) (λe st h=>by
   rw[J]
   show∃q,HK P fn old e st=some q/\J6 E b q
   by_cases hq: ∃q,HK P fn old e st=some q/\J6 E b q
   ·exact hq
   ·have h:(if∃q,HK P fn old e st=some q/\J6 E b q then some ()else none)=some ():=h
    rw[if_neg hq]at h;cases h) (by rw[J,aN];exact V) hM hg0 hv'
  refine this.mono λe w' hq=>?_;obtain⟨q,hg,G',cv,he,H⟩:=hq;obtain⟨qv,qm⟩:=q;obtain⟨W,hg2⟩:=hg;have W:qm=(D8 E b).2:=W;subst W;exact⟨G',cv,he,hg2 G' w' cv H.memR.lab H.v,H.ev,H.mine,H.prot,H.new,H.memR,H.gens,H.kept,H.nones⟩
 ·obtain⟨v,mm,h4,h5⟩:=OS ht h2 h1;have hdec:Ap true E.r .ret ⟨eK [0] [v],mm⟩=some b:=by
   split at h4
   ·rename_i b' hb';rw[hb',yb h4]
   ·cases h4
  obtain⟨g1,g2⟩:=JA U.2 hdec;refine if_pos ⟨_,h5,?_,?_⟩
  ·exact congrArg aD g1.symm
  ·exact g2
end Go.Ab
