import Derived.Test.YtjjjbgicidhpfaaDoorLib25
set_option linter.unusedVariables false
set_option linter.unusedSectionVars false
set_option linter.unusedSimpArgs false
namespace Go.Ab
variable [cS]
noncomputable section
variable {P:Program} {tab:TypeId->Option TI} {C:cC} {tbl:FuncId->List aG} {an:o5} {loops:Nat->Option aQ} {old:List (Option Bool)}
def O3.down:O3->Ex
 | .normal=> .normal
 | .exit id=> .exit id
 | .ret=> .ret
 | .goto l=> .goto l
def sG:(l:List oU)->fG l->O3×BC
 | [],d=>(.normal,⟨λ_=> .gone,[]⟩)
 | [a],d=>(a.ex,zK a d)
 |a::b::r,d=>match d with
  | .inl x=>(a.ex,zK a x)
  | .inr y=>sG (b::r) y
theorem pQ{R:Type}{r:R}: ∀{l:List oU} {d:fG l} {k:O3->BC->Option R},Cc (aZ R) l d k=some r->k (sG l d).1 (sG l d).2=some r
 | [],d,k,h=>by cases h
 | [a],d,k,h=>h
 |a::b::l,.inl x,k,h=>h
 |a::b::l,.inr y,k,h=>pQ (l:=b::l) h
theorem Oy{a b:O3}(h:HU a b=true):a=b:=by
 cases a<;>cases b<;>first|rfl|(cases h;done)|(rw[nb.1 h])
theorem M6{env:Nat->KV}: ∀(H:List Nat) (t:Nat),eK H (mA env H) t= .gone\/eK H (mA env H) t=env t
 | [],t=> .inl rfl
 |s::H,t=>by
  show(bif Nat.beq t s then env s else eK H (mA env H) t)= .gone\/(bif Nat.beq t s then env s else eK H (mA env H) t)=env t
  cases J:Nat.beq t s with
  |true=>right;rw[nb.1 J];rfl
  |false=>exact M6 H t
theorem NF{a:oU}{st:BC}{d:a.den}(h:rL false a st=some d):(zK a d).mem=st.mem/\∀t,(zK a d).env t= .gone\/(zK a d).env t=st.env t:=by
 unfold rL at h;split at h<;>try contradiction
 rename_i x K;split at h<;>try contradiction
 rename_i y J;have H:=yb h;have M:=(pE K).trans (congrArg (eD a.sh) (P2.fst_mk' H).symm);have N:=(Ed J).trans (congrArg (jC a.msh) (P2.snd_mk' H).symm);refine⟨N.symm,λt=>?_⟩;have O:(zK a d).env t=eK a.slots (mA st.env a.slots) t:=by
  rw[M];rfl
 rw[O];exact M6 a.slots t
theorem pL{e:O3}{st:BC}: ∀{l:List oU} {d:fG l},Ap false l e st=some d->(sG l d).1=e/\(sG l d).2.mem=st.mem/\∀t,(sG l d).2.env t= .gone\/(sG l d).2.env t=st.env t
 | [],d,h=>by cases h
 | [a],d,h=>by
  have H:(bif HU a.ex e then rL false a st else none)=some d:=h;obtain⟨K,J⟩:=cJ.1 H;exact⟨Oy K,NF J⟩
 |a::b::l,d,h=>by
  have H:(match(bif HU a.ex e then rL false a st else none)with
   |some x=>some (Sum.inl x)
   |none=>(match Ap false (b::l) e st with|some y=>some (Sum.inr y)|none=>none))=some d:=h
  split at H
  ·rename_i x N;obtain⟨K,J⟩:=cJ.1 N;have:=yb H;subst this;exact⟨Oy K,NF J⟩
  ·split at H<;>try contradiction
   rename_i y M;have:=yb H;subst this;exact pL (l:=b::l) M
theorem gJ.of_le{env H:Nat->KV}{tmps:List AV}(J:gJ env tmps)(h: ∀t,H t= .gone\/H t=env t):gJ H tmps:=by
 intro t;rcases h t with h|h
 ·exact .inl h
 ·rw[h];exact J t
def lA(m:Nat):Code->Bool
 | .seq a b=>lA m a&&lA m b
 | .cond _ x y=>lA m x&&lA m y
 | .block _ c=>lA m c
 | .loop c=>lA m c
 | .scope (.seq (.region _ o1 _) (.seq (.region _ o2 _) (.seq _ b)))=>(o1.toList.all λo=>match o.dst with|some d=>Nat.blt d m|none=>true)&&((o2.toList.all λo=>match o.dst with|some d=>Nat.blt d m|none=>true)&&lA m b)
 | .region _ ops _=>ops.toList.all λo=>match o.dst with|some d=>Nat.blt d m|none=>true
 |_=>true
def Qs(tab:TypeId->Option TI)(tbl:FuncId->List aG)(loops:Nat->Option aQ)(an:o5)(old:List (Option Bool))(n:Nat)(bid:Nat)(c:Code):Prop:=
 ∀L,loops bid=some L->∃(live:List Nat) (B:fG L.heads->Option (fG L.heads⊕fG L.outs)),dS bid an.live=some live/\eG 0 live=true/\(∀s,L.run s=aM B n s)/\
  ∀s,Fu (aZ _) tab tbl loops an old c bid live L.heads L.outs s some=B s
def rM(tab:TypeId->Option TI)(tbl:FuncId->List aG)(loops:Nat->Option aQ)(an:o5)(old:List (Option Bool))(n:Nat)(c:Code)(bid:Nat):Prop:=
 ∀q∈gK c bid,Qs tab tbl loops an old n q.1 q.2
theorem SD{R:Type}{r:R}{a b:Option R}(h:a=some r/\b=some r):Go.Ab.amb a b=some r:=by
 unfold Go.Ab.amb;rw[if_pos (h.1.trans h.2.symm)];exact h.1
def WZ(P:Program)(C:cC)(tab:TypeId->Option TI)(tbl:FuncId->List aG)(loops:Nat->Option aQ)(an:o5)(old:List (Option Bool))(n m:Nat)(c:Code):Prop:=
 ∀{R R1:Type} {r:R} {r1:R1} {bid:Nat} {st:BC} {k:O3->BC->Option R} {k1:Ex->St->Option R1} {tmps:List AV},rM tab tbl loops an old n c bid->gJ st.env tmps->tmps.length=m->
  mM (aZ R) tab tbl loops an old c bid st k=some r->
  (∀e st' tmps',k e st'=some r->gJ st'.env tmps'->tmps'.length=m->k1 e.down ⟨tmps',aD st'.mem⟩=some r1)->
  cX P C an n old c bid ⟨tmps,aD st.mem⟩ k1=some r1
theorem KX{n m:Nat}{c:Code}(ih:WZ P C tab tbl loops an old n m c){K:Nat}(hls:rM tab tbl loops an old n c K){L:aQ}{live:List Nat}{B:fG L.heads->Option (fG L.heads⊕fG L.outs)}
  (N:Nat.ble 500 K=false) (O:eG 0 live=true) (hB: ∀s,Fu (aZ _) tab tbl loops an old c K live L.heads L.outs s some=B s) {R1:Type} {r1:R1} {k1:Ex->St->Option R1} {x:fG L.outs}
  (hk: ∀H,gJ (sG L.outs x).2.env H->H.length=m->k1 (sG L.outs x).1.down ⟨H,aD (sG L.outs x).2.mem⟩=some r1):
  ∀(j:Nat) (s:fG L.heads) (tmps:List AV),aM B (j+1) s=some x->gJ (sG L.heads s).2.env tmps->tmps.length=m->
   (cX P C an n old c K ⟨tmps, aD (sG L.heads s).2.mem⟩ fun e M => match e with
    | .normal=>mF (eY K an.keep) old live (λst k=>cX P C an n old c K st k) j M k1
    | .exit id=>k1 (.exit id) M
    | .ret=>k1 .ret M
    | .goto l=>k1 (.goto l) M)=some r1
 |j,s,tmps,h,he,hm=>by
  have Z:((B s).bind λq=>Sum.rec (λs'=>aM B j s') (λx=>some x) q)=some x:=h;obtain⟨q,hq,Z⟩:=yp1.1 Z;rw[<-hB]at hq;have hq:=pQ hq;refine ih hls he hm hq λe M H J V Y=>?_;cases e with
  |normal=>
   simp only[N,yg]at J;obtain⟨st1,W,h1,h2,h3,h4⟩:=AK V O J;split at h1<;>try contradiction
   rename_i s' hs';have:=yb h1;subst this;obtain⟨_,e2,e3⟩:=pL hs';cases j with
   |zero=>cases Z
   |succ j=>
    have:=KX ih hls N O hB hk j s' W Z (h3.of_le e3) (h4.trans Y);show mF (eY K an.keep) old live _ (j+1) ⟨H,aD M.mem⟩ k1=some r1;simp only[mF];rw[h2,<-e2];exact this
  |goto l=>
   exfalso;simp only at J;cases hg:Nat.beq (cF l) K with
   |false=>rw[hg]at J;cases J
   |true=>
    have h2:=nb.1 hg;unfold cF at h2;rw[<-h2,yl1 (by omega)]at N;cases N
  |exit id=>
   simp only at J;split at J<;>try contradiction
   rename_i x' U;have:=yb J;subst this;have:=yb Z;subst this;obtain⟨e1,e2,e3⟩:=pL U;have:=hk H (V.of_le e3) Y;rw[e1,e2]at this;exact this
  |ret=>
   simp only at J;split at J<;>try contradiction
   rename_i x' U;have:=yb J;subst this;have:=yb Z;subst this;obtain⟨e1,e2,e3⟩:=pL U;have:=hk H (V.of_le e3) Y;rw[e1,e2]at this;exact this
 termination_by j=>j
theorem Ib{n m:Nat}{c:Code}(ih:WZ P C tab tbl loops an old n m c){l:Nat}(hls:rM tab tbl loops an old n c (cF l)){L:aQ}{live:List Nat}{B:fG L.heads->Option (fG L.heads⊕fG L.outs)}
  (M:eG 0 live=true) (hB: ∀s,Fu (aZ _) tab tbl loops an old c (cF l) live L.heads L.outs s some=B s) {R1:Type} {r1:R1} {k1:Ex->St->Option R1} {x:fG L.outs}
  (hk: ∀H,gJ (sG L.outs x).2.env H->H.length=m->k1 (sG L.outs x).1.down ⟨H,aD (sG L.outs x).2.mem⟩=some r1):
  ∀(j:Nat) (s:fG L.heads) (tmps:List AV),aM B (j+1) s=some x->gJ (sG L.heads s).2.env tmps->tmps.length=m->
   (cX P C an n old c (cF l) ⟨tmps, aD (sG L.heads s).2.mem⟩ (N6 l fun e K => match e with
    | .normal=>mF (eY (cF l) an.keep) old live (λst k=>cX P C an n old c (cF l) st (N6 l k)) j K k1
    | .exit id=>k1 (.exit id) K
    | .ret=>k1 .ret K
    | .goto l=>k1 (.goto l) K))=some r1
 |j,s,tmps,h,he,hm=>by
  have Y:((B s).bind λq=>Sum.rec (λs'=>aM B j s') (λx=>some x) q)=some x:=h;obtain⟨q,hq,Y⟩:=yp1.1 Y;rw[<-hB]at hq;have hq:=pQ hq;refine ih hls he hm hq λe K H J O W=>?_;cases e with
  |normal=>
   exfalso;simp only[show Nat.ble 500 (cF l)=true from yl1 (by unfold cF;omega),yh]at J;cases J
  |goto V=>
   simp only at J;cases hg:Nat.beq (cF V) (cF l)with
   |false=>rw[hg]at J;cases J
   |true=>
   obtain rfl:V=l:=by have h2:=nb.1 hg;unfold cF at h2;omega
   rw[hg]at J;simp only[yh]at J;obtain⟨st1,U,h1,h2,h3,h4⟩:=AK O M J;split at h1<;>try contradiction
   rename_i s' hs';have:=yb h1;subst this;obtain⟨_,Z,e3⟩:=pL hs';cases j with
   |zero=>cases Y
   |succ j=>
    have:=Ib ih hls M hB hk j s' U Y (h3.of_le e3) (h4.trans W)
    show(bif Nat.beq V V then mF (eY (cF V) an.keep) old live (λst k=>cX P C an n old c (cF V) st (N6 V k)) (j+1) ⟨H,aD K.mem⟩ k1 else none)=some r1
    rw[yr3,yh];simp only[mF];rw[h2,<-Z];exact this
  |exit id=>
   simp only at J;split at J<;>try contradiction
   rename_i x' N;have:=yb J;subst this;have:=yb Y;subst this;obtain⟨e1,Z,e3⟩:=pL N;have:=hk H (O.of_le e3) W;rw[e1,Z]at this;exact this
  |ret=>
   simp only at J;split at J<;>try contradiction
   rename_i x' N;have:=yb J;subst this;have:=yb Y;subst this;obtain⟨e1,Z,e3⟩:=pL N;have:=hk H (O.of_le e3) W;rw[e1,Z]at this;exact this
 termination_by j=>j
theorem Ki(ht:b9 P tab)(hC:I2 C tbl){n m:Nat}(c:Code)(hd:lA m c=true):WZ P C tab tbl loops an old n m c:=by
 suffices H: ∀(N:Nat) (c:Code),SizeOf.sizeOf c<N->lA m c=true->WZ P C tab tbl loops an old n m c from by
  intro R R1 r r1 J st k k1 tmps;exact H _ c (yd3 _) hd
 clear hd c;intro N
 induction N with
 |zero=>intro c hN;exact absurd hN (Nat.not_lt_zero _)
 |succ N IH=>
 intro c hN hd;cases c with
 |skip=>
  intro R R1 r r1 J st k k1 tmps O Z hm h Y;exact Y .normal st tmps h Z hm
 |ret=>
  intro R R1 r r1 J st k k1 tmps O Z hm h Y;exact Y .ret st tmps h Z hm
 |exit id=>
  intro R R1 r r1 J st k k1 tmps O Z hm h Y;exact Y (.exit id) st tmps h Z hm
 |seq a b=>
  have iha:= @IH a (by simp at hN;omega);have ihb:= @IH b (by simp at hN;omega);intro R R1 r r1 J st k k1 tmps O Z hm h Y;have hd':(lA m a&&lA m b)=true:=hd;rw[yc]at hd'
  have h':mM (aZ R) tab tbl loops an old a J st (λe M=>match e with
   | .normal=>mM (aZ R) tab tbl loops an old b J M k
   | .exit id=>k (.exit id) M
   | .ret=>k .ret M
   | .goto l=>k (.goto l) M)=some r:=h
  refine iha hd'.1 (λq hq=>O q (yc2 _ hq)) Z hm h' λe M K V W U=>?_;cases e with
  |normal=>exact ihb hd'.2 (λq hq=>O q (ye2 _ hq)) W U V Y
  |exit id=>exact Y (.exit id) M K V W U
  |ret=>exact Y .ret M K V W U
  |goto l=>exact Y (.goto l) M K V W U
 |cond c x y=>
  have ihx:= @IH x (by simp at hN;omega);have ihy:= @IH y (by simp at hN;omega);intro R R1 r r1 J st k k1 tmps O Z hm h Y;have hd':(lA m x&&lA m y)=true:=hd;rw[yc]at hd'
  have h':(f8 st.env c λv=>match v with
   | .lit (.bool t)=>(aZ R).ite t (mM (aZ R) tab tbl loops an old x J ⟨rI st.env c true,st.mem⟩ k) (mM (aZ R) tab tbl loops an old y J ⟨rI st.env c false,st.mem⟩ k)
   | .unkB=>(aZ R).amb (mM (aZ R) tab tbl loops an old x J st k) (mM (aZ R) tab tbl loops an old y J st k)
   |_=>none)=some r:=h
  obtain⟨v,hv,V,hne⟩:=a8 Z h';clear hne
  have hgoal:cX P C an n old (.cond c x y) J ⟨tmps,aD st.mem⟩ k1=(match cN tmps c with
   |some (.lit (.bool t))=>bif t then cX P C an n old x J ⟨tmps,aD st.mem⟩ k1 else cX P C an n old y J ⟨tmps,aD st.mem⟩ k1
   |some (.imm true (.lit (.bool false)))=>Go.Ab.amb (cX P C an n old x J ⟨tmps,aD st.mem⟩ k1) (cX P C an n old y J ⟨tmps,aD st.mem⟩ k1)
   |_=>none):=rfl
  rw[hgoal,hv];split at V<;>try contradiction
  ·rename_i t;have hkn:gJ (rI st.env c t) tmps:=by
    unfold rI;split
    ·rename_i d;intro t';show qC st.env d (.lit (.bool t)) t'= .gone\/fD tmps t'=some (qC st.env d (.lit (.bool t)) t').down/\iP (qC st.env d (.lit (.bool t)) t').down=false;by_cases e:t'=d
     ·subst e;right;have e2:qC st.env t' (.lit (.bool t)) t'= .lit (.bool t):=by
       show(bif Nat.beq t' t' then KV.lit (.bool t)else st.env t')=_
       rw[yr3];rfl
      rw[e2];refine⟨?_,rfl⟩;have:=hv;simp only[cN]at this;rcases Z t' with h0|⟨h0,h2⟩
      ·exfalso;have hg:=h';unfold f8 at hg;simp only[h0]at hg;cases hg
      ·rw[h0];unfold He at this;rw[h0]at this;simpa[h2]using this
     ·have e2:qC st.env d (.lit (.bool t)) t'=st.env t':=by
       show(bif Nat.beq t' d then KV.lit (.bool t)else st.env t')=_
       have:Nat.beq t' d=false:=by
        cases hb:Nat.beq t' d with
        |true=>exact absurd (nb.1 hb) e
        |false=>rfl
       rw[this];rfl
      rw[e2];exact Z t'
    ·exact Z
   cases t with
   |true=>exact ihx hd'.1 (λq hq=>O q (yc2 _ hq)) (st:=⟨rI st.env c true,st.mem⟩) hkn hm V Y
   |false=>exact ihy hd'.2 (λq hq=>O q (ye2 _ hq)) (st:=⟨rI st.env c false,st.mem⟩) hkn hm V Y
  ·have V:Go.Ab.amb (mM (aZ R) tab tbl loops an old x J st k) (mM (aZ R) tab tbl loops an old y J st k)=some r:=V;have V:=OX V;show Go.Ab.amb (cX P C an n old x J ⟨tmps,aD st.mem⟩ k1) (cX P C an n old y J ⟨tmps,aD st.mem⟩ k1)=some r1;exact SD ⟨ihx hd'.1 (λq hq=>O q (yc2 _ hq)) Z hm V.1 Y,ihy hd'.2 (λq hq=>O q (ye2 _ hq)) Z hm V.2 Y⟩
 |block id c=>
  have ih:= @IH c (by simp at hN;omega);intro R R1 r r1 J st k k1 tmps O Z hm h Y
  have h':mM (aZ R) tab tbl loops an old c id st (λe M=>match e with
   | .normal=>k .normal M
   | .exit j=>bif Nat.beq j id then k .normal M else k (.exit j) M
   | .ret=>k .ret M
   | .goto l=>k (.goto l) M)=some r:=h
  refine ih hd O Z hm h' λe M K V W U=>?_;cases e with
  |normal=>exact Y .normal M K V W U
  |exit j=>
   have V:(bif Nat.beq j id then k .normal M else k (.exit j) M)=some r:=V
   show(bif Nat.beq j id then k1 .normal ⟨K,aD M.mem⟩else k1 (.exit j) ⟨K,aD M.mem⟩)=some r1
   cases hj:Nat.beq j id with
   |true=>rw[hj]at V;exact Y .normal M K V W U
   |false=>rw[hj]at V;exact Y (.exit j) M K V W U
  |ret=>exact Y .ret M K V W U
  |goto l=>exact Y (.goto l) M K V W U
 |loop c=>
  have ih:= @IH c (by simp at hN;omega);intro R R1 r r1 J st k k1 tmps O Z hm h Y;have hb5:Nat.ble 500 J=false:=by
   cases hb:Nat.ble 500 J with
   |false=>rfl
   |true=>
    have h:(bif Nat.ble 500 J then none else _)=some r:=h;rw[hb]at h;cases h
  have h:(bif Nat.ble 500 J then none else _)=some r:=h;rw[hb5]at h
  have h':(match dS J an.live with
   |some live=>BA (aZ R) (eY J an.keep) old live st λst1=>
    (match loops J with
    |some L=>(match Ap false L.heads .normal st1 with
     |some s=>(aZ R).bind (L.run s) λx=>Cc (aZ R) L.outs x k
     |none=>none)
    |none=>none)
   |none=>none)=some r:=h
  split at h'<;>try contradiction
  rename_i live hlive;obtain⟨hL,hrest⟩:Qs tab tbl loops an old n J c/\rM tab tbl loops an old n c J:=⟨O (J,c) (yn ..),λq hq=>O q (yk _ hq)⟩
  cases hlo:loops J with
  |none=>
   simp only[hlo]at h';unfold BA at h';exfalso;obtain⟨vs,h2,_⟩:=s6 Z h';obtain⟨_,_,h3,_⟩:=Cz h2;cases h3
  |some L=>
   obtain⟨live',B,hl',hinc,hrun,hB⟩:=hL L hlo;rw[hlive]at hl';obtain rfl:=yb hl';obtain⟨st1,tmps1,V,h2,h3,h4⟩:=AK Z hinc h';simp only[hlo]at V;split at V<;>try contradiction
   rename_i s hs;have h1':((L.run s).bind λx=>Cc (aZ R) L.outs x k)=some r:=V;obtain⟨x,hx,h1'⟩:=yp1.1 h1';have h5:=pQ h1';obtain⟨_,e2,e3⟩:=pL hs;rw[hrun]at hx;have hgoal:cX P C an n old (.loop c) J ⟨tmps,aD st.mem⟩ k1=(dS J an.live).bind λlive=>mF (eY J an.keep) old live (λst k=>cX P C an n old c J st k) n ⟨tmps,aD st.mem⟩ k1:=rfl;rw[hgoal,hlive,ya];cases n with
   |zero=>cases hx
   |succ j=>
    have:=KX (k1:=k1) (ih hd) hrest hb5 hinc hB (λK W U=>Y _ _ K h5 W U) j s tmps1 hx (h3.of_le e3) (h4.trans hm);simp only[mF];rw[h2,<-e2];exact this
 |region rid ops draw=>
  intro R R1 r r1 J st k k1 tmps O Z hm h Y;have h:F9 (aZ R) an rid old st (λst=>rN (aZ R) tab tbl an rid ops draw st (λM=>k .normal M))=some r:=h;obtain⟨st1,tmps1,h,htd,he1,hlen⟩:=Eo Z h;have hm1:=hlen.trans hm;have hgoal:cX P C an n old (.region rid ops draw) J ⟨tmps,aD st.mem⟩ k1=(Bl an rid old ⟨tmps,aD st.mem⟩).bind λst=>kS P C an rid ops draw st (λM=>k1 .normal M):=rfl;rw[hgoal,htd,ya];refine yY ht hC (st:=st1) (λo ho d hdst=>?_) he1 h λM K V W U=>Y .normal M K V W (U.trans hm1);have hd':(ops.toList.all λo=>match o.dst with|some d=>Nat.blt d m|none=>true)=true:=hd;rw[ya1]at hd';have:=hd' o ho;rw[hdst]at this;simp only at this;rw[hm1];rw[Nat.blt_eq]at this;exact this
 |goto l=>
  intro R R1 r r1 J st k k1 tmps O Z hm h Y;exact Y (.goto l) st tmps h Z hm
 |scope c=>cases c with
  |seq x y=>cases x with
   |region r1' o1 d1=>cases y with
    |seq x2 y2=>cases x2 with
     |region r2' o2 d2=>cases y2 with
      |seq x3 b=>cases x3 with
       |label l=>
        intro R R1 r r1 J st k k1 tmps O Z hm h Y;have ih:= @IH b (by simp at hN;omega);have hd0:((o1.toList.all λo=>match o.dst with|some d=>Nat.blt d m|none=>true)&&((o2.toList.all λo=>match o.dst with|some d=>Nat.blt d m|none=>true)&&lA m b))=true:=hd;rw[yc,yc]at hd0;obtain⟨hd1,hd2,hd3⟩:=hd0;have dst: ∀(ops:Array Oper),(ops.toList.all λo=>match o.dst with|some d=>Nat.blt d m|none=>true)=true->∀o∈ops.toList,∀d,o.dst=some d->d<m:=by
         intro ops hd' o ho d hdst;rw[ya1]at hd';have:=hd' o ho;rw[hdst]at this;simp only at this;rw[Nat.blt_eq]at this;exact this
        have h:F9 (aZ R) an r1' old st (λst=>rN (aZ R) tab tbl an r1' o1 d1 st (λst=>F9 (aZ R) an r2' old st (λst=>rN (aZ R) tab tbl an r2' o2 d2 st (λst=>match dS (cF l) an.live with
         |some live=>BA (aZ R) (eY (cF l) an.keep) old live st λst1=>
          (match loops (cF l) with
          |some L=>(match Ap false L.heads .normal st1 with
           |some s=>(aZ R).bind (L.run s) λx=>Cc (aZ R) L.outs x k
           |none=>none)
          |none=>none)
         |none=>none))))=some r:=h
        obtain⟨st1,tmps1,h,htd,he1,hlen⟩:=Eo Z h;have hgoal:cX P C an n old (.scope (.seq (.region r1' o1 d1) (.seq (.region r2' o2 d2) (.seq (.label l) b)))) J ⟨tmps,aD st.mem⟩ k1=(Bl an r1' old ⟨tmps,aD st.mem⟩).bind λst=>kS P C an r1' o1 d1 st λst=>
         (Bl an r2' old st).bind λst=>kS P C an r2' o2 d2 st λst=>
         (dS (cF l) an.live).bind λlive=>mF (eY (cF l) an.keep) old live (λst k=>cX P C an n old b (cF l) st (N6 l k)) n st k1:=rfl
        rw[hgoal,htd,ya];refine yY ht hC (st:=st1) (λo ho d hdst=>by rw[hlen,hm];exact dst o1 hd1 o ho d hdst) he1 h λM K V W U=>?_;obtain⟨st2,tmps2,V,htd2,he2,hlen2⟩:=Eo W V;rw[htd2,ya];refine yY ht hC (st:=st2) (λo ho d hdst=>by rw[hlen2,U,hlen,hm];exact dst o2 hd2 o ho d hdst) he2 V λst3 tmps3 h3 he3 hm3=>?_;have hmm:tmps3.length=m:=by rw[hm3,hlen2,U,hlen,hm]
        split at h3<;>try contradiction
        rename_i live hlive;obtain⟨hL,hrest⟩:Qs tab tbl loops an old n (cF l) b/\rM tab tbl loops an old n b (cF l):=⟨O (cF l,b) (yn ..),λq hq=>O q (yk _ hq)⟩
        cases hlo:loops (cF l)with
        |none=>
         simp only[hlo]at h3;unfold BA at h3;exfalso;obtain⟨vs,h2,_⟩:=s6 he3 h3;obtain⟨_,_,h3,_⟩:=Cz h2;cases h3
        |some L=>
         obtain⟨live',B,hl',hinc,hrun,hB⟩:=hL L hlo;rw[hlive]at hl';obtain rfl:=yb hl';obtain⟨st4,tmps4,V,h2,h3,h4⟩:=AK he3 hinc h3;simp only[hlo]at V;split at V<;>try contradiction
         rename_i s hs;have h1':((L.run s).bind λx=>Cc (aZ R) L.outs x k)=some r:=V;obtain⟨x,hx,h1'⟩:=yp1.1 h1';have h5:=pQ h1';obtain⟨_,e2,e3⟩:=pL hs;rw[hrun]at hx;rw[hlive,ya];cases n with
         |zero=>cases hx
         |succ j=>
          have:=Ib (k1:=k1) (ih hd3) hrest hinc hB (λK W U=>Y _ _ K h5 W U) j s tmps4 hx (h3.of_le e3) (h4.trans hmm);simp only[mF];rw[h2,<-e2];exact this
       |_=>intro R R1 r r1 J st k k1 tmps O Z hm h Y;cases h
      |_=>intro R R1 r r1 J st k k1 tmps O Z hm h Y;cases h
     |_=>intro R R1 r r1 J st k k1 tmps O Z hm h Y;cases h
    |_=>intro R R1 r r1 J st k k1 tmps O Z hm h Y;cases h
   |_=>intro R R1 r r1 J st k k1 tmps O Z hm h Y;cases h
  |_=>intro R R1 r r1 J st k k1 tmps O Z hm h Y;cases h
 |_=>intro R R1 r r1 J st k k1 tmps O Z hm h Y;cases h
end
end Go.Ab
