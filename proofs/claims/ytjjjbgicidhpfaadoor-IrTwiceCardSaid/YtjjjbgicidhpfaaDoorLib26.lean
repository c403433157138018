import Derived.Test.YtjjjbgicidhpfaaDoorLib25
set_option linter.unusedVariables false
set_option linter.unusedSectionVars false
set_option linter.unusedSimpArgs false
namespace Go.Ab
variable [cF]
noncomputable section
variable {P:Program} {tab:TypeId->Option TI} {C:bX} {tbl:FuncId->List aE} {an:nB} {loops:Nat->Option aT} {old:List (Option Bool)}
def MX.down:MX->Ex
 | .normal=> .normal
 | .exit id=> .exit id
 | .ret=> .ret
 | .goto l=> .goto l
def qD:(l:List mT)->eN l->MX×zX
 | [],d=>(.normal,⟨λ_=> .gone,[]⟩)
 | [a],d=>(a.ex,wK a d)
 |a::b::r,d=>match d with
  | .inl x=>(a.ex,wK a x)
  | .inr y=>qD (b::r) y
theorem nX{R:Type}{r:R}: ∀{l:List mT} {d:eN l} {k:MX->zX->Option R},Dp (aS R) l d k=some r->k (qD l d).1 (qD l d).2=some r
 | [],d,k,h=>by cases h
 | [a],d,k,h=>h
 |a::b::l,.inl x,k,h=>h
 |a::b::l,.inr y,k,h=>nX (l:=b::l) h
theorem KZ{a b:MX}(h:Gm a b=true):a=b:=by
 cases a<;>cases b<;>first|rfl|(cases h;done)|(rw[nb.1 h])
theorem MN{env:Nat->KV}: ∀(H:List Nat) (t:Nat),dW H (kQ env H) t= .gone\/dW H (kQ env H) t=env t
 | [],t=> .inl rfl
 |s::H,t=>by
  show(bif Nat.beq t s then env s else dW H (kQ env H) t)= .gone\/(bif Nat.beq t s then env s else dW H (kQ env H) t)=env t
  cases J:Nat.beq t s with
  |true=>right;rw[nb.1 J];rfl
  |false=>exact MN H t
theorem Mi{a:mT}{st:zX}{d:a.den}(h:o5 false a st=some d):(wK a d).mem=st.mem/\∀t,(wK a d).env t= .gone\/(wK a d).env t=st.env t:=by
 unfold o5 at h;split at h<;>try contradiction
 rename_i x K;split at h<;>try contradiction
 rename_i y J;have H:=ya h;have N:=(nN K).trans (congrArg (dN a.sh) (P2.fst_mk' H).symm);have M:=(BJ J).trans (congrArg (gX a.msh) (P2.snd_mk' H).symm);refine⟨M.symm,λt=>?_⟩;have O:(wK a d).env t=dW a.slots (kQ st.env a.slots) t:=by
  rw[N];rfl
 rw[O];exact MN a.slots t
theorem nQ{e:MX}{st:zX}: ∀{l:List mT} {d:eN l},wT false l e st=some d->(qD l d).1=e/\(qD l d).2.mem=st.mem/\∀t,(qD l d).2.env t= .gone\/(qD l d).2.env t=st.env t
 | [],d,h=>by cases h
 | [a],d,h=>by
  have H:(bif Gm a.ex e then o5 false a st else none)=some d:=h;obtain⟨J,K⟩:=bZ.1 H;exact⟨KZ J,Mi K⟩
 |a::b::l,d,h=>by
  have H:(match(bif Gm a.ex e then o5 false a st else none)with
   |some x=>some (Sum.inl x)
   |none=>(match wT false (b::l) e st with|some y=>some (Sum.inr y)|none=>none))=some d:=h
  split at H
  ·rename_i x N;obtain⟨J,K⟩:=bZ.1 N;have:=ya H;subst this;exact⟨KZ J,Mi K⟩
  ·split at H<;>try contradiction
   rename_i y M;have:=ya H;subst this;exact nQ (l:=b::l) M
theorem fJ.of_le{env H:Nat->KV}{tmps:List AV}(J:fJ env tmps)(h: ∀t,H t= .gone\/H t=env t):fJ H tmps:=by
 intro t;rcases h t with h|h
 ·exact .inl h
 ·rw[h];exact J t
def jO(m:Nat):Code->Bool
 | .seq a b=>jO m a&&jO m b
 | .cond _ x y=>jO m x&&jO m y
 | .block _ c=>jO m c
 | .loop c=>jO m c
 | .scope (.seq (.region _ o1 _) (.seq (.region _ o2 _) (.seq _ b)))=>(o1.toList.all λo=>match o.dst with|some d=>Nat.blt d m|none=>true)&&((o2.toList.all λo=>match o.dst with|some d=>Nat.blt d m|none=>true)&&jO m b)
 | .region _ ops _=>ops.toList.all λo=>match o.dst with|some d=>Nat.blt d m|none=>true
 |_=>true
def Nf(tab:TypeId->Option TI)(tbl:FuncId->List aE)(loops:Nat->Option aT)(an:nB)(old:List (Option Bool))(n:Nat)(bid:Nat)(c:Code):Prop:=
 ∀L,loops bid=some L->∃(live:List Nat) (B:eN L.heads->Option (eN L.heads⊕eN L.outs)),dB bid an.live=some live/\dR 0 live=true/\(∀s,L.run s=aY B n s)/\
  ∀s,Cr (aS _) tab tbl loops an old c bid live L.heads L.outs s some=B s
def pR(tab:TypeId->Option TI)(tbl:FuncId->List aE)(loops:Nat->Option aT)(an:nB)(old:List (Option Bool))(n:Nat)(c:Code)(bid:Nat):Prop:=
 ∀q∈fK c bid,Nf tab tbl loops an old n q.1 q.2
theorem Qh{R:Type}{r:R}{a b:Option R}(h:a=some r/\b=some r):Go.Ab.amb a b=some r:=by
 unfold Go.Ab.amb;rw[if_pos (h.1.trans h.2.symm)];exact h.1
def U6(P:Program)(C:bX)(tab:TypeId->Option TI)(tbl:FuncId->List aE)(loops:Nat->Option aT)(an:nB)(old:List (Option Bool))(n m:Nat)(c:Code):Prop:=
 ∀{R R1:Type} {r:R} {r1:R1} {bid:Nat} {st:zX} {k:MX->zX->Option R} {k1:Ex->St->Option R1} {tmps:List AV},pR tab tbl loops an old n c bid->fJ st.env tmps->tmps.length=m->
  kJ (aS R) tab tbl loops an old c bid st k=some r->
  (∀e st' tmps',k e st'=some r->fJ st'.env tmps'->tmps'.length=m->k1 e.down ⟨tmps',aB st'.mem⟩=some r1)->
  cK P C an n old c bid ⟨tmps,aB st.mem⟩ k1=some r1
theorem IT{n m:Nat}{c:Code}(ih:U6 P C tab tbl loops an old n m c){K:Nat}(hls:pR tab tbl loops an old n c K){L:aT}{live:List Nat}{B:eN L.heads->Option (eN L.heads⊕eN L.outs)}
  (N:Nat.ble 500 K=false) (O:dR 0 live=true) (hB: ∀s,Cr (aS _) tab tbl loops an old c K live L.heads L.outs s some=B s) {R1:Type} {r1:R1} {k1:Ex->St->Option R1} {x:eN L.outs}
  (hk: ∀H,fJ (qD L.outs x).2.env H->H.length=m->k1 (qD L.outs x).1.down ⟨H,aB (qD L.outs x).2.mem⟩=some r1):
  ∀(j:Nat) (s:eN L.heads) (tmps:List AV),aY B (j+1) s=some x->fJ (qD L.heads s).2.env tmps->tmps.length=m->
   (cK P C an n old c K ⟨tmps, aB (qD L.heads s).2.mem⟩ fun e M => match e with
    | .normal=>kK (eC K an.keep) old live (λst k=>cK P C an n old c K st k) j M k1
    | .exit id=>k1 (.exit id) M
    | .ret=>k1 .ret M
    | .goto l=>k1 (.goto l) M)=some r1
 |j,s,tmps,h,he,hm=>by
  have Z:((B s).bind λq=>Sum.rec (λs'=>aY B j s') (λx=>some x) q)=some x:=h;obtain⟨q,hq,Z⟩:=yy1.1 Z;rw[<-hB]at hq;have hq:=nX hq;refine ih hls he hm hq λe M H J W Y=>?_;cases e with
  |normal=>
   simp only[N,yh]at J;obtain⟨st1,U,h1,h2,h3,h4⟩:=zT W O J;split at h1<;>try contradiction
   rename_i s' hs';have:=ya h1;subst this;obtain⟨_,e2,e3⟩:=nQ hs';cases j with
   |zero=>cases Z
   |succ j=>
    have:=IT ih hls N O hB hk j s' U Z (h3.of_le e3) (h4.trans Y);show kK (eC K an.keep) old live _ (j+1) ⟨H,aB M.mem⟩ k1=some r1;simp only[kK];rw[h2,<-e2];exact this
  |goto l=>
   exfalso;simp only at J;cases hg:Nat.beq (bW l) K with
   |false=>rw[hg]at J;cases J
   |true=>
    have h2:=nb.1 hg;unfold bW at h2;rw[<-h2,yr1 (by omega)]at N;cases N
  |exit id=>
   simp only at J;split at J<;>try contradiction
   rename_i x' V;have:=ya J;subst this;have:=ya Z;subst this;obtain⟨e1,e2,e3⟩:=nQ V;have:=hk H (W.of_le e3) Y;rw[e1,e2]at this;exact this
  |ret=>
   simp only at J;split at J<;>try contradiction
   rename_i x' V;have:=ya J;subst this;have:=ya Z;subst this;obtain⟨e1,e2,e3⟩:=nQ V;have:=hk H (W.of_le e3) Y;rw[e1,e2]at this;exact this
 termination_by j=>j
theorem Gq{n m:Nat}{c:Code}(ih:U6 P C tab tbl loops an old n m c){l:Nat}(Z:pR tab tbl loops an old n c (bW l)){L:aT}{live:List Nat}{B:eN L.heads->Option (eN L.heads⊕eN L.outs)}
  (M:dR 0 live=true) (hB: ∀s,Cr (aS _) tab tbl loops an old c (bW l) live L.heads L.outs s some=B s) {R1:Type} {r1:R1} {k1:Ex->St->Option R1} {x:eN L.outs}
  (hk: ∀H,fJ (qD L.outs x).2.env H->H.length=m->k1 (qD L.outs x).1.down ⟨H,aB (qD L.outs x).2.mem⟩=some r1):
  ∀(j:Nat) (s:eN L.heads) (tmps:List AV),aY B (j+1) s=some x->fJ (qD L.heads s).2.env tmps->tmps.length=m->
   (cK P C an n old c (bW l) ⟨tmps, aB (qD L.heads s).2.mem⟩ (Md l fun e K => match e with
    | .normal=>kK (eC (bW l) an.keep) old live (λst k=>cK P C an n old c (bW l) st (Md l k)) j K k1
    | .exit id=>k1 (.exit id) K
    | .ret=>k1 .ret K
    | .goto l=>k1 (.goto l) K))=some r1
 |j,s,tmps,h,he,hm=>by
  have Y:((B s).bind λq=>Sum.rec (λs'=>aY B j s') (λx=>some x) q)=some x:=h;obtain⟨q,hq,Y⟩:=yy1.1 Y;rw[<-hB]at hq;have hq:=nX hq;refine ih Z he hm hq λe K H J V W=>?_;cases e with
  |normal=>
   exfalso;simp only[show Nat.ble 500 (bW l)=true from yr1 (by unfold bW;omega),yg]at J;cases J
  |goto N=>
   simp only at J;cases hg:Nat.beq (bW N) (bW l)with
   |false=>rw[hg]at J;cases J
   |true=>
   obtain rfl:N=l:=by have h2:=nb.1 hg;unfold bW at h2;omega
   rw[hg]at J;simp only[yg]at J;obtain⟨st1,O,h1,h2,h3,h4⟩:=zT V M J;split at h1<;>try contradiction
   rename_i s' hs';have:=ya h1;subst this;obtain⟨_,e2,e3⟩:=nQ hs';cases j with
   |zero=>cases Y
   |succ j=>
    have:=Gq ih Z M hB hk j s' O Y (h3.of_le e3) (h4.trans W)
    show(bif Nat.beq N N then kK (eC (bW N) an.keep) old live (λst k=>cK P C an n old c (bW N) st (Md N k)) (j+1) ⟨H,aB K.mem⟩ k1 else none)=some r1
    rw[yg3,yg];simp only[kK];rw[h2,<-e2];exact this
  |exit id=>
   simp only at J;split at J<;>try contradiction
   rename_i x' U;have:=ya J;subst this;have:=ya Y;subst this;obtain⟨e1,e2,e3⟩:=nQ U;have:=hk H (V.of_le e3) W;rw[e1,e2]at this;exact this
  |ret=>
   simp only at J;split at J<;>try contradiction
   rename_i x' U;have:=ya J;subst this;have:=ya Y;subst this;obtain⟨e1,e2,e3⟩:=nQ U;have:=hk H (V.of_le e3) W;rw[e1,e2]at this;exact this
 termination_by j=>j
theorem Ir(ht:bT P tab)(hC:Gs C tbl){n m:Nat}(c:Code)(hd:jO m c=true):U6 P C tab tbl loops an old n m c:=by
 suffices H: ∀(N:Nat) (c:Code),SizeOf.sizeOf c<N->jO m c=true->U6 P C tab tbl loops an old n m c from by
  intro R R1 r r1 J st k k1 tmps;exact H _ c (yy2 _) hd
 clear hd c;intro N
 induction N with
 |zero=>intro c hN;exact absurd hN (Nat.not_lt_zero _)
 |succ N IH=>
 intro c hN hd;cases c with
 |skip=>
  intro R R1 r r1 J st k k1 tmps O Z hm h Y;exact Y .normal st tmps h Z hm
 |ret=>
  intro R R1 r r1 J st k k1 tmps O Z hm h Y;exact Y .ret st tmps h Z hm
 |exit id=>
  intro R R1 r r1 J st k k1 tmps O Z hm h Y;exact Y (.exit id) st tmps h Z hm
 |seq a b=>
  have iha:= @IH a (by simp at hN;omega);have ihb:= @IH b (by simp at hN;omega);intro R R1 r r1 J st k k1 tmps O Z hm h Y;have hd':(jO m a&&jO m b)=true:=hd;rw[yc]at hd'
  have h':kJ (aS R) tab tbl loops an old a J st (λe M=>match e with
   | .normal=>kJ (aS R) tab tbl loops an old b J M k
   | .exit id=>k (.exit id) M
   | .ret=>k .ret M
   | .goto l=>k (.goto l) M)=some r:=h
  refine iha hd'.1 (λq hq=>O q (yz1 _ hq)) Z hm h' λe M K V W U=>?_;cases e with
  |normal=>exact ihb hd'.2 (λq hq=>O q (ya2 _ hq)) W U V Y
  |exit id=>exact Y (.exit id) M K V W U
  |ret=>exact Y .ret M K V W U
  |goto l=>exact Y (.goto l) M K V W U
 |cond c x y=>
  have ihx:= @IH x (by simp at hN;omega);have ihy:= @IH y (by simp at hN;omega);intro R R1 r r1 J st k k1 tmps O Z hm h Y;have hd':(jO m x&&jO m y)=true:=hd;rw[yc]at hd'
  have h':(eZ st.env c λv=>match v with
   | .lit (.bool t)=>(aS R).ite t (kJ (aS R) tab tbl loops an old x J ⟨pG st.env c true,st.mem⟩ k) (kJ (aS R) tab tbl loops an old y J ⟨pG st.env c false,st.mem⟩ k)
   | .unkB=>(aS R).amb (kJ (aS R) tab tbl loops an old x J st k) (kJ (aS R) tab tbl loops an old y J st k)
   |_=>none)=some r:=h
  obtain⟨v,hv,V,hne⟩:=aU Z h';clear hne
  have hgoal:cK P C an n old (.cond c x y) J ⟨tmps,aB st.mem⟩ k1=(match cC tmps c with
   |some (.lit (.bool t))=>bif t then cK P C an n old x J ⟨tmps,aB st.mem⟩ k1 else cK P C an n old y J ⟨tmps,aB st.mem⟩ k1
   |some (.imm true (.lit (.bool false)))=>Go.Ab.amb (cK P C an n old x J ⟨tmps,aB st.mem⟩ k1) (cK P C an n old y J ⟨tmps,aB st.mem⟩ k1)
   |_=>none):=rfl
  rw[hgoal,hv];split at V<;>try contradiction
  ·rename_i t;have hkn:fJ (pG st.env c t) tmps:=by
    unfold pG;split
    ·rename_i d;intro t';show n8 st.env d (.lit (.bool t)) t'= .gone\/eO tmps t'=some (n8 st.env d (.lit (.bool t)) t').down/\gK (n8 st.env d (.lit (.bool t)) t').down=false;by_cases e:t'=d
     ·subst e;right;have e2:n8 st.env t' (.lit (.bool t)) t'= .lit (.bool t):=by
       show(bif Nat.beq t' t' then KV.lit (.bool t)else st.env t')=_
       rw[yg3];rfl
      rw[e2];refine⟨?_,rfl⟩;have:=hv;simp only[cC]at this;rcases Z t' with h0|⟨h0,h2⟩
      ·exfalso;have hg:=h';unfold eZ at hg;simp only[h0]at hg;cases hg
      ·rw[h0];unfold Fo at this;rw[h0]at this;simpa[h2]using this
     ·have e2:n8 st.env d (.lit (.bool t)) t'=st.env t':=by
       show(bif Nat.beq t' d then KV.lit (.bool t)else st.env t')=_
       have:Nat.beq t' d=false:=by
        cases hb:Nat.beq t' d with
        |true=>exact absurd (nb.1 hb) e
        |false=>rfl
       rw[this];rfl
      rw[e2];exact Z t'
    ·exact Z
   cases t with
   |true=>exact ihx hd'.1 (λq hq=>O q (yz1 _ hq)) (st:=⟨pG st.env c true,st.mem⟩) hkn hm V Y
   |false=>exact ihy hd'.2 (λq hq=>O q (ya2 _ hq)) (st:=⟨pG st.env c false,st.mem⟩) hkn hm V Y
  ·have V:Go.Ab.amb (kJ (aS R) tab tbl loops an old x J st k) (kJ (aS R) tab tbl loops an old y J st k)=some r:=V;have V:=LP V;show Go.Ab.amb (cK P C an n old x J ⟨tmps,aB st.mem⟩ k1) (cK P C an n old y J ⟨tmps,aB st.mem⟩ k1)=some r1;exact Qh ⟨ihx hd'.1 (λq hq=>O q (yz1 _ hq)) Z hm V.1 Y,ihy hd'.2 (λq hq=>O q (ya2 _ hq)) Z hm V.2 Y⟩
 |block id c=>
  have ih:= @IH c (by simp at hN;omega);intro R R1 r r1 J st k k1 tmps O Z hm h Y
  have h':kJ (aS R) tab tbl loops an old c id st (λe M=>match e with
   | .normal=>k .normal M
   | .exit j=>bif Nat.beq j id then k .normal M else k (.exit j) M
   | .ret=>k .ret M
   | .goto l=>k (.goto l) M)=some r:=h
  refine ih hd O Z hm h' λe M K V W U=>?_;cases e with
  |normal=>exact Y .normal M K V W U
  |exit j=>
   have V:(bif Nat.beq j id then k .normal M else k (.exit j) M)=some r:=V
   show(bif Nat.beq j id then k1 .normal ⟨K,aB M.mem⟩else k1 (.exit j) ⟨K,aB M.mem⟩)=some r1
   cases hj:Nat.beq j id with
   |true=>rw[hj]at V;exact Y .normal M K V W U
   |false=>rw[hj]at V;exact Y (.exit j) M K V W U
  |ret=>exact Y .ret M K V W U
  |goto l=>exact Y (.goto l) M K V W U
 |loop c=>
  have ih:= @IH c (by simp at hN;omega);intro R R1 r r1 J st k k1 tmps O Z hm h Y;have hb5:Nat.ble 500 J=false:=by
   cases hb:Nat.ble 500 J with
   |false=>rfl
   |true=>
    have h:(bif Nat.ble 500 J then none else _)=some r:=h;rw[hb]at h;cases h
  have h:(bif Nat.ble 500 J then none else _)=some r:=h;rw[hb5]at h
  have h':(match dB J an.live with
   |some live=>z9 (aS R) (eC J an.keep) old live st λst1=>
    (match loops J with
    |some L=>(match wT false L.heads .normal st1 with
     |some s=>(aS R).bind (L.run s) λx=>Dp (aS R) L.outs x k
     |none=>none)
    |none=>none)
   |none=>none)=some r:=h
  split at h'<;>try contradiction
  rename_i live hlive;obtain⟨hL,hrest⟩:Nf tab tbl loops an old n J c/\pR tab tbl loops an old n c J:=⟨O (J,c) (yn ..),λq hq=>O q (yj _ hq)⟩
  cases hlo:loops J with
  |none=>
   simp only[hlo]at h';unfold z9 at h';exfalso;obtain⟨vs,h2,_⟩:=qS Z h';obtain⟨_,_,h3,_⟩:=AC h2;cases h3
  |some L=>
   obtain⟨live',B,hl',hinc,hrun,hB⟩:=hL L hlo;rw[hlive]at hl';obtain rfl:=ya hl';obtain⟨st1,tmps1,V,h2,h3,h4⟩:=zT Z hinc h';simp only[hlo]at V;split at V<;>try contradiction
   rename_i s hs;have h1':((L.run s).bind λx=>Dp (aS R) L.outs x k)=some r:=V;obtain⟨x,hx,h1'⟩:=yy1.1 h1';have h5:=nX h1';obtain⟨_,e2,e3⟩:=nQ hs;rw[hrun]at hx;have hgoal:cK P C an n old (.loop c) J ⟨tmps,aB st.mem⟩ k1=(dB J an.live).bind λlive=>kK (eC J an.keep) old live (λst k=>cK P C an n old c J st k) n ⟨tmps,aB st.mem⟩ k1:=rfl;rw[hgoal,hlive,yb];cases n with
   |zero=>cases hx
   |succ j=>
    have:=IT (k1:=k1) (ih hd) hrest hb5 hinc hB (λK W U=>Y _ _ K h5 W U) j s tmps1 hx (h3.of_le e3) (h4.trans hm);simp only[kK];rw[h2,<-e2];exact this
 |region rid ops draw=>
  intro R R1 r r1 J st k k1 tmps O Z hm h Y;have h:E5 (aS R) an rid old st (λst=>pS (aS R) tab tbl an rid ops draw st (λM=>k .normal M))=some r:=h;obtain⟨st1,tmps1,h,htd,he1,hlen⟩:=C4 Z h;have hm1:=hlen.trans hm;have hgoal:cK P C an n old (.region rid ops draw) J ⟨tmps,aB st.mem⟩ k1=(z5 an rid old ⟨tmps,aB st.mem⟩).bind λst=>jM P C an rid ops draw st (λM=>k1 .normal M):=rfl;rw[hgoal,htd,yb];refine yS ht hC (st:=st1) (λo ho d hdst=>?_) he1 h λM K V W U=>Y .normal M K V W (U.trans hm1);have hd':(ops.toList.all λo=>match o.dst with|some d=>Nat.blt d m|none=>true)=true:=hd;rw[yf1]at hd';have:=hd' o ho;rw[hdst]at this;simp only at this;rw[hm1];rw[Nat.blt_eq]at this;exact this
 |goto l=>
  intro R R1 r r1 J st k k1 tmps O Z hm h Y;exact Y (.goto l) st tmps h Z hm
 |scope c=>cases c with
  |seq x y=>cases x with
   |region r1' o1 d1=>cases y with
    |seq x2 y2=>cases x2 with
     |region r2' o2 d2=>cases y2 with
      |seq x3 b=>cases x3 with
       |label l=>
        intro R R1 r r1 J st k k1 tmps O Z hm h Y;have ih:= @IH b (by simp at hN;omega);have hd0:((o1.toList.all λo=>match o.dst with|some d=>Nat.blt d m|none=>true)&&((o2.toList.all λo=>match o.dst with|some d=>Nat.blt d m|none=>true)&&jO m b))=true:=hd;rw[yc,yc]at hd0;obtain⟨hd1,hd2,hd3⟩:=hd0;have dst: ∀(ops:Array Oper),(ops.toList.all λo=>match o.dst with|some d=>Nat.blt d m|none=>true)=true->∀o∈ops.toList,∀d,o.dst=some d->d<m:=by
         intro ops hd' o ho d hdst;rw[yf1]at hd';have:=hd' o ho;rw[hdst]at this;simp only at this;rw[Nat.blt_eq]at this;exact this
        have h:E5 (aS R) an r1' old st (λst=>pS (aS R) tab tbl an r1' o1 d1 st (λst=>E5 (aS R) an r2' old st (λst=>pS (aS R) tab tbl an r2' o2 d2 st (λst=>match dB (bW l) an.live with
         |some live=>z9 (aS R) (eC (bW l) an.keep) old live st λst1=>
          (match loops (bW l) with
          |some L=>(match wT false L.heads .normal st1 with
           |some s=>(aS R).bind (L.run s) λx=>Dp (aS R) L.outs x k
           |none=>none)
          |none=>none)
         |none=>none))))=some r:=h
        obtain⟨st1,tmps1,h,htd,he1,hlen⟩:=C4 Z h;have hgoal:cK P C an n old (.scope (.seq (.region r1' o1 d1) (.seq (.region r2' o2 d2) (.seq (.label l) b)))) J ⟨tmps,aB st.mem⟩ k1=(z5 an r1' old ⟨tmps,aB st.mem⟩).bind λst=>jM P C an r1' o1 d1 st λst=>
         (z5 an r2' old st).bind λst=>jM P C an r2' o2 d2 st λst=>
         (dB (bW l) an.live).bind λlive=>kK (eC (bW l) an.keep) old live (λst k=>cK P C an n old b (bW l) st (Md l k)) n st k1:=rfl
        rw[hgoal,htd,yb];refine yS ht hC (st:=st1) (λo ho d hdst=>by rw[hlen,hm];exact dst o1 hd1 o ho d hdst) he1 h λM K V W U=>?_;obtain⟨st2,tmps2,V,htd2,he2,hlen2⟩:=C4 W V;rw[htd2,yb];refine yS ht hC (st:=st2) (λo ho d hdst=>by rw[hlen2,U,hlen,hm];exact dst o2 hd2 o ho d hdst) he2 V λst3 tmps3 h3 he3 hm3=>?_;have hmm:tmps3.length=m:=by rw[hm3,hlen2,U,hlen,hm]
        split at h3<;>try contradiction
        rename_i live hlive;obtain⟨hL,hrest⟩:Nf tab tbl loops an old n (bW l) b/\pR tab tbl loops an old n b (bW l):=⟨O (bW l,b) (yn ..),λq hq=>O q (yj _ hq)⟩
        cases hlo:loops (bW l)with
        |none=>
         simp only[hlo]at h3;unfold z9 at h3;exfalso;obtain⟨vs,h2,_⟩:=qS he3 h3;obtain⟨_,_,h3,_⟩:=AC h2;cases h3
        |some L=>
         obtain⟨live',B,hl',hinc,hrun,hB⟩:=hL L hlo;rw[hlive]at hl';obtain rfl:=ya hl';obtain⟨st4,tmps4,V,h2,h3,h4⟩:=zT he3 hinc h3;simp only[hlo]at V;split at V<;>try contradiction
         rename_i s hs;have h1':((L.run s).bind λx=>Dp (aS R) L.outs x k)=some r:=V;obtain⟨x,hx,h1'⟩:=yy1.1 h1';have h5:=nX h1';obtain⟨_,e2,e3⟩:=nQ hs;rw[hrun]at hx;rw[hlive,yb];cases n with
         |zero=>cases hx
         |succ j=>
          have:=Gq (k1:=k1) (ih hd3) hrest hinc hB (λK W U=>Y _ _ K h5 W U) j s tmps4 hx (h3.of_le e3) (h4.trans hmm);simp only[kK];rw[h2,<-e2];exact this
       |_=>intro R R1 r r1 J st k k1 tmps O Z hm h Y;cases h
      |_=>intro R R1 r r1 J st k k1 tmps O Z hm h Y;cases h
     |_=>intro R R1 r r1 J st k k1 tmps O Z hm h Y;cases h
    |_=>intro R R1 r r1 J st k k1 tmps O Z hm h Y;cases h
   |_=>intro R R1 r r1 J st k k1 tmps O Z hm h Y;cases h
  |_=>intro R R1 r r1 J st k k1 tmps O Z hm h Y;cases h
 |_=>intro R R1 r r1 J st k k1 tmps O Z hm h Y;cases h
end
end Go.Ab
