import Derived.Test.YtjjjbgicidhpfaaDoorLib24
set_option linter.unusedVariables false
set_option linter.unusedSectionVars false
set_option linter.unusedSimpArgs false
namespace Go.Ab
variable [b3]
noncomputable section
variable {P:Program} {tab:TypeId->Option TI} {C:bM} {tbl:FuncId->List aD} {an:kQ} {loops:Nat->Option aT} {old:List (Option Bool)}
def JC.down:JC->Ex
 | .normal=> .normal
 | .exit id=> .exit id
 | .ret=> .ret
 | .goto l=> .goto l
def nP:(l:List kN)->dV l->JC×wH
 | [],d=>(.normal,⟨λ_=> .gone,[]⟩)
 | [a],d=>(a.ex,qM a d)
 |a::b::r,d=>match d with
  | .inl x=>(a.ex,qM a x)
  | .inr y=>nP (b::r) y
theorem lL{R:Type}{r:R}: ∀{l:List kN} {d:dV l} {k:JC->wH->Option R},D3 (aQ R) l d k=some r->k (nP l d).1 (nP l d).2=some r
 | [],d,k,h=>by cases h
 | [a],d,k,h=>h
 |a::b::l,.inl x,k,h=>h
 |a::b::l,.inr y,k,h=>lL (l:=b::l) h
theorem II{a b:JC}(h:Dh a b=true):a=b:=by
 cases a<;>cases b<;>first|rfl|(cases h;done)|(rw[nb.1 h])
theorem IF{env:Nat->KV}: ∀(H:List Nat) (t:Nat),dD H (iR env H) t= .gone\/dD H (iR env H) t=env t
 | [],t=> .inl rfl
 |s::H,t=>by
  show(bif Nat.beq t s then env s else dD H (iR env H) t)= .gone\/(bif Nat.beq t s then env s else dD H (iR env H) t)=env t
  cases I:Nat.beq t s with
  |true=>right;rw[nb.1 I];rfl
  |false=>exact IF H t
theorem It{a:kN}{st:wH}{d:a.den}(h:mT false a st=some d):(qM a d).mem=st.mem/\∀t,(qM a d).env t= .gone\/(qM a d).env t=st.env t:=by
 unfold mT at h;split at h<;>try contradiction
 rename_i x M;split at h<;>try contradiction
 rename_i y I;have H:=ya h;have K:=(kY M).trans (congrArg (c6 a.sh) (P2.fst_mk' H).symm);have N:=(z4 I).trans (congrArg (fM a.msh) (P2.snd_mk' H).symm);refine⟨N.symm,λt=>?_⟩;have J:(qM a d).env t=dD a.slots (iR st.env a.slots) t:=by
  rw[K];rfl
 rw[J];exact IF a.slots t
theorem lD{e:JC}{st:wH}: ∀{l:List kN} {d:dV l},sB false l e st=some d->(nP l d).1=e/\(nP l d).2.mem=st.mem/\∀t,(nP l d).2.env t= .gone\/(nP l d).2.env t=st.env t
 | [],d,h=>by cases h
 | [a],d,h=>by
  have H:(bif Dh a.ex e then mT false a st else none)=some d:=h;obtain⟨J,I⟩:=bP.1 H;exact⟨II J,It I⟩
 |a::b::l,d,h=>by
  have H:(match(bif Dh a.ex e then mT false a st else none)with
   |some x=>some (Sum.inl x)
   |none=>(match sB false (b::l) e st with|some y=>some (Sum.inr y)|none=>none))=some d:=h
  split at H
  ·rename_i x M;obtain⟨J,I⟩:=bP.1 M;have:=ya H;subst this;exact⟨II J,It I⟩
  ·split at H<;>try contradiction
   rename_i y K;have:=ya H;subst this;exact lD (l:=b::l) K
theorem eJ.of_le{env H:Nat->KV}{tmps:List AV}(I:eJ env tmps)(h: ∀t,H t= .gone\/H t=env t):eJ H tmps:=by
 intro t;rcases h t with h|h
 ·exact .inl h
 ·rw[h];exact I t
def gV(m:Nat):Code->Bool
 | .seq a b=>gV m a&&gV m b
 | .cond _ x y=>gV m x&&gV m y
 | .block _ c=>gV m c
 | .loop c=>gV m c
 | .scope (.seq (.region _ o1 _) (.seq (.region _ o2 _) (.seq _ b)))=>(o1.toList.all λo=>match o.dst with|some d=>Nat.blt d m|none=>true)&&((o2.toList.all λo=>match o.dst with|some d=>Nat.blt d m|none=>true)&&gV m b)
 | .region _ ops _=>ops.toList.all λo=>match o.dst with|some d=>Nat.blt d m|none=>true
 |_=>true
def KO(tab:TypeId->Option TI)(tbl:FuncId->List aD)(loops:Nat->Option aT)(an:kQ)(old:List (Option Bool))(n:Nat)(bid:Nat)(c:Code):Prop:=
 ∀L,loops bid=some L->∃(live:List Nat) (B:dV L.heads->Option (dV L.heads⊕dV L.outs)),cP bid an.live=some live/\c9 0 live=true/\(∀s,L.run s=b8 B n s)/\
  ∀s,A1 (aQ _) tab tbl loops an old c bid live L.heads L.outs s some=B s
def m6(tab:TypeId->Option TI)(tbl:FuncId->List aD)(loops:Nat->Option aT)(an:kQ)(old:List (Option Bool))(n:Nat)(c:Code)(bid:Nat):Prop:=
 ∀q∈eK c bid,KO tab tbl loops an old n q.1 q.2
theorem MD{R:Type}{r:R}{a b:Option R}(h:a=some r/\b=some r):Go.Ab.amb a b=some r:=by
 unfold Go.Ab.amb;rw[if_pos (h.1.trans h.2.symm)];exact h.1
def Pp(P:Program)(C:bM)(tab:TypeId->Option TI)(tbl:FuncId->List aD)(loops:Nat->Option aT)(an:kQ)(old:List (Option Bool))(n m:Nat)(c:Code):Prop:=
 ∀{R R1:Type} {r:R} {r1:R1} {bid:Nat} {st:wH} {k:JC->wH->Option R} {k1:Ex->St->Option R1} {tmps:List AV},m6 tab tbl loops an old n c bid->eJ st.env tmps->tmps.length=m->
  iX (aQ R) tab tbl loops an old c bid st k=some r->
  (∀e st' tmps',k e st'=some r->eJ st'.env tmps'->tmps'.length=m->k1 e.down ⟨tmps',aB st'.mem⟩=some r1)->
  b7 P C an n old c bid ⟨tmps,aB st.mem⟩ k1=some r1
theorem FH{n m:Nat}{c:Code}(ih:Pp P C tab tbl loops an old n m c){J:Nat}(hls:m6 tab tbl loops an old n c J){L:aT}{live:List Nat}{B:dV L.heads->Option (dV L.heads⊕dV L.outs)}
  (M:Nat.ble 500 J=false) (N:c9 0 live=true) (hB: ∀s,A1 (aQ _) tab tbl loops an old c J live L.heads L.outs s some=B s) {R1:Type} {r1:R1} {k1:Ex->St->Option R1} {x:dV L.outs}
  (hk: ∀H,eJ (nP L.outs x).2.env H->H.length=m->k1 (nP L.outs x).1.down ⟨H,aB (nP L.outs x).2.mem⟩=some r1):
  ∀(j:Nat) (s:dV L.heads) (tmps:List AV),b8 B (j+1) s=some x->eJ (nP L.heads s).2.env tmps->tmps.length=m->
   (b7 P C an n old c J ⟨tmps, aB (nP L.heads s).2.mem⟩ fun e K => match e with
    | .normal=>iP (dL J an.keep) old live (λst k=>b7 P C an n old c J st k) j K k1
    | .exit id=>k1 (.exit id) K
    | .ret=>k1 .ret K
    | .goto l=>k1 (.goto l) K)=some r1
 |j,s,tmps,h,he,hm=>by
  have Y:((B s).bind λq=>Sum.rec (λs'=>b8 B j s') (λx=>some x) q)=some x:=h;obtain⟨q,hq,Y⟩:=yp1.1 Y;rw[<-hB]at hq;have hq:=lL hq;refine ih hls he hm hq λe K H I W O=>?_;cases e with
  |normal=>
   simp only[M,yj]at I;obtain⟨st1,U,h1,h2,h3,h4⟩:=sW W N I;split at h1<;>try contradiction
   rename_i s' hs';have:=ya h1;subst this;obtain⟨_,e2,Z⟩:=lD hs';cases j with
   |zero=>cases Y
   |succ j=>
    have:=FH ih hls M N hB hk j s' U Y (h3.of_le Z) (h4.trans O);show iP (dL J an.keep) old live _ (j+1) ⟨H,aB K.mem⟩ k1=some r1;simp only[iP];rw[h2,<-e2];exact this
  |goto l=>
   exfalso;simp only at I;cases hg:Nat.beq (bO l) J with
   |false=>rw[hg]at I;cases I
   |true=>
    have h2:=nb.1 hg;unfold bO at h2;rw[<-h2,Nat.ble_eq_true_of_le (by omega)]at M;cases M
  |exit id=>
   simp only at I;split at I<;>try contradiction
   rename_i x' V;have:=ya I;subst this;have:=ya Y;subst this;obtain⟨e1,e2,Z⟩:=lD V;have:=hk H (W.of_le Z) O;rw[e1,e2]at this;exact this
  |ret=>
   simp only at I;split at I<;>try contradiction
   rename_i x' V;have:=ya I;subst this;have:=ya Y;subst this;obtain⟨e1,e2,Z⟩:=lD V;have:=hk H (W.of_le Z) O;rw[e1,e2]at this;exact this
 termination_by j=>j
theorem Ds{n m:Nat}{c:Code}(ih:Pp P C tab tbl loops an old n m c){l:Nat}(Z:m6 tab tbl loops an old n c (bO l)){L:aT}{live:List Nat}{B:dV L.heads->Option (dV L.heads⊕dV L.outs)}
  (K:c9 0 live=true) (hB: ∀s,A1 (aQ _) tab tbl loops an old c (bO l) live L.heads L.outs s some=B s) {R1:Type} {r1:R1} {k1:Ex->St->Option R1} {x:dV L.outs}
  (hk: ∀H,eJ (nP L.outs x).2.env H->H.length=m->k1 (nP L.outs x).1.down ⟨H,aB (nP L.outs x).2.mem⟩=some r1):
  ∀(j:Nat) (s:dV L.heads) (tmps:List AV),b8 B (j+1) s=some x->eJ (nP L.heads s).2.env tmps->tmps.length=m->
   (b7 P C an n old c (bO l) ⟨tmps, aB (nP L.heads s).2.mem⟩ (HV l fun e J => match e with
    | .normal=>iP (dL (bO l) an.keep) old live (λst k=>b7 P C an n old c (bO l) st (HV l k)) j J k1
    | .exit id=>k1 (.exit id) J
    | .ret=>k1 .ret J
    | .goto l=>k1 (.goto l) J))=some r1
 |j,s,tmps,h,he,hm=>by
  have W:((B s).bind λq=>Sum.rec (λs'=>b8 B j s') (λx=>some x) q)=some x:=h;obtain⟨q,hq,W⟩:=yp1.1 W;rw[<-hB]at hq;have hq:=lL hq;refine ih Z he hm hq λe J H I V M=>?_;cases e with
  |normal=>
   exfalso;simp only[show Nat.ble 500 (bO l)=true from Nat.ble_eq_true_of_le (by unfold bO;omega),yl]at I;cases I
  |goto U=>
   simp only at I;cases hg:Nat.beq (bO U) (bO l)with
   |false=>rw[hg]at I;cases I
   |true=>
   obtain rfl:U=l:=by have h2:=nb.1 hg;unfold bO at h2;omega
   rw[hg]at I;simp only[yl]at I;obtain⟨st1,N,h1,h2,h3,h4⟩:=sW V K I;split at h1<;>try contradiction
   rename_i s' hs';have:=ya h1;subst this;obtain⟨_,e2,Y⟩:=lD hs';cases j with
   |zero=>cases W
   |succ j=>
    have:=Ds ih Z K hB hk j s' N W (h3.of_le Y) (h4.trans M)
    show(bif Nat.beq U U then iP (dL (bO U) an.keep) old live (λst k=>b7 P C an n old c (bO U) st (HV U k)) (j+1) ⟨H,aB J.mem⟩ k1 else none)=some r1
    rw[yf3,yl];simp only[iP];rw[h2,<-e2];exact this
  |exit id=>
   simp only at I;split at I<;>try contradiction
   rename_i x' O;have:=ya I;subst this;have:=ya W;subst this;obtain⟨e1,e2,Y⟩:=lD O;have:=hk H (V.of_le Y) M;rw[e1,e2]at this;exact this
  |ret=>
   simp only at I;split at I<;>try contradiction
   rename_i x' O;have:=ya I;subst this;have:=ya W;subst this;obtain⟨e1,e2,Y⟩:=lD O;have:=hk H (V.of_le Y) M;rw[e1,e2]at this;exact this
 termination_by j=>j
theorem Gs(ht:bL P tab)(hC:C1 C tbl){n m:Nat}(c:Code)(hd:gV m c=true):Pp P C tab tbl loops an old n m c:=by
 suffices H: ∀(N:Nat) (c:Code),SizeOf.sizeOf c<N->gV m c=true->Pp P C tab tbl loops an old n m c from by
  intro R R1 r r1 I st k k1 tmps;exact H _ c (yj2 _) hd
 clear hd c;intro N
 induction N with
 |zero=>intro c hN;exact absurd hN (Nat.not_lt_zero _)
 |succ N IH=>
 intro c hN hd;cases c with
 |skip=>
  intro R R1 r r1 I st k k1 tmps M Y hm h W;exact W .normal st tmps h Y hm
 |ret=>
  intro R R1 r r1 I st k k1 tmps M Y hm h W;exact W .ret st tmps h Y hm
 |exit id=>
  intro R R1 r r1 I st k k1 tmps M Y hm h W;exact W (.exit id) st tmps h Y hm
 |seq a b=>
  have iha:= @IH a (by simp at hN;omega);have ihb:= @IH b (by simp at hN;omega);intro R R1 r r1 I st k k1 tmps M Y hm h W;have hd':(gV m a&&gV m b)=true:=hd;rw[yb]at hd';have h':iX (aQ R) tab tbl loops an old a I st (λe K=>match e with
   | .normal=>iX (aQ R) tab tbl loops an old b I K k
   | .exit id=>k (.exit id) K
   | .ret=>k .ret K
   | .goto l=>k (.goto l) K)=some r:=h
  refine iha hd'.1 (λq hq=>M q (yq1 _ hq)) Y hm h' λe K J U V O=>?_;cases e with
  |normal=>exact ihb hd'.2 (λq hq=>M q (yr1 _ hq)) V O U W
  |exit id=>exact W (.exit id) K J U V O
  |ret=>exact W .ret K J U V O
  |goto l=>exact W (.goto l) K J U V O
 |cond c x y=>
  have ihx:= @IH x (by simp at hN;omega);have ihy:= @IH y (by simp at hN;omega);intro R R1 r r1 I st k k1 tmps M Y hm h W;have hd':(gV m x&&gV m y)=true:=hd;rw[yb]at hd';have h':(eB st.env c λv=>match v with
   | .lit (.bool t)=>(aQ R).ite t (iX (aQ R) tab tbl loops an old x I ⟨mP st.env c true,st.mem⟩ k) (iX (aQ R) tab tbl loops an old y I ⟨mP st.env c false,st.mem⟩ k)
   | .unkB=>(aQ R).amb (iX (aQ R) tab tbl loops an old x I st k) (iX (aQ R) tab tbl loops an old y I st k)
   |_=>none)=some r:=h
  obtain⟨v,hv,U,hne⟩:=aS Y h';clear hne;have Z:b7 P C an n old (.cond c x y) I ⟨tmps,aB st.mem⟩ k1=(match bW tmps c with
   |some (.lit (.bool t))=>bif t then b7 P C an n old x I ⟨tmps,aB st.mem⟩ k1 else b7 P C an n old y I ⟨tmps,aB st.mem⟩ k1
   |some (.imm true (.lit (.bool false)))=>Go.Ab.amb (b7 P C an n old x I ⟨tmps,aB st.mem⟩ k1) (b7 P C an n old y I ⟨tmps,aB st.mem⟩ k1)
   |_=>none):=rfl
  rw[Z,hv];split at U<;>try contradiction
  ·rename_i t;have hkn:eJ (mP st.env c t) tmps:=by
    unfold mP;split
    ·rename_i d;intro t';show lT st.env d (.lit (.bool t)) t'= .gone\/dW tmps t'=some (lT st.env d (.lit (.bool t)) t').down/\fB (lT st.env d (.lit (.bool t)) t').down=false;by_cases e:t'=d
     ·subst e;right;have e2:lT st.env t' (.lit (.bool t)) t'= .lit (.bool t):=by
       show(bif Nat.beq t' t' then KV.lit (.bool t)else st.env t')=_
       rw[yf3];rfl
      rw[e2];refine⟨?_,rfl⟩;have:=hv;simp only[bW]at this;rcases Y t' with h0|⟨h0,h2⟩
      ·exfalso;have hg:=h';unfold eB at hg;simp only[h0]at hg;cases hg
      ·rw[h0];unfold Cg at this;rw[h0]at this;simpa[h2]using this
     ·have e2:lT st.env d (.lit (.bool t)) t'=st.env t':=by
       show(bif Nat.beq t' d then KV.lit (.bool t)else st.env t')=_
       have:Nat.beq t' d=false:=by
        cases hb:Nat.beq t' d with
        |true=>exact absurd (nb.1 hb) e
        |false=>rfl
       rw[this];rfl
      rw[e2];exact Y t'
    ·exact Y
   cases t with
   |true=>exact ihx hd'.1 (λq hq=>M q (yq1 _ hq)) (st:=⟨mP st.env c true,st.mem⟩) hkn hm U W
   |false=>exact ihy hd'.2 (λq hq=>M q (yr1 _ hq)) (st:=⟨mP st.env c false,st.mem⟩) hkn hm U W
  ·have U:Go.Ab.amb (iX (aQ R) tab tbl loops an old x I st k) (iX (aQ R) tab tbl loops an old y I st k)=some r:=U;have U:=Jd U;show Go.Ab.amb (b7 P C an n old x I ⟨tmps,aB st.mem⟩ k1) (b7 P C an n old y I ⟨tmps,aB st.mem⟩ k1)=some r1;exact MD ⟨ihx hd'.1 (λq hq=>M q (yq1 _ hq)) Y hm U.1 W,ihy hd'.2 (λq hq=>M q (yr1 _ hq)) Y hm U.2 W⟩
 |block id c=>
  have ih:= @IH c (by simp at hN;omega);intro R R1 r r1 I st k k1 tmps M Y hm h W;have h':iX (aQ R) tab tbl loops an old c id st (λe K=>match e with
   | .normal=>k .normal K
   | .exit j=>bif Nat.beq j id then k .normal K else k (.exit j) K
   | .ret=>k .ret K
   | .goto l=>k (.goto l) K)=some r:=h
  refine ih hd M Y hm h' λe K J U V O=>?_;cases e with
  |normal=>exact W .normal K J U V O
  |exit j=>
   have U:(bif Nat.beq j id then k .normal K else k (.exit j) K)=some r:=U
   show(bif Nat.beq j id then k1 .normal ⟨J,aB K.mem⟩else k1 (.exit j) ⟨J,aB K.mem⟩)=some r1
   cases hj:Nat.beq j id with
   |true=>rw[hj]at U;exact W .normal K J U V O
   |false=>rw[hj]at U;exact W (.exit j) K J U V O
  |ret=>exact W .ret K J U V O
  |goto l=>exact W (.goto l) K J U V O
 |loop c=>
  have ih:= @IH c (by simp at hN;omega);intro R R1 r r1 I st k k1 tmps M Y hm h W;have hb5:Nat.ble 500 I=false:=by
   cases hb:Nat.ble 500 I with
   |false=>rfl
   |true=>
    have h:(bif Nat.ble 500 I then none else _)=some r:=h;rw[hb]at h;cases h
  have h:(bif Nat.ble 500 I then none else _)=some r:=h;rw[hb5]at h;have h':(match cP I an.live with
   |some live=>vU (aQ R) (dL I an.keep) old live st λst1=>
    (match loops I with
    |some L=>(match sB false L.heads .normal st1 with
     |some s=>(aQ R).bind (L.run s) λx=>D3 (aQ R) L.outs x k
     |none=>none)
    |none=>none)
   |none=>none)=some r:=h
  split at h'<;>try contradiction
  rename_i live hlive;obtain⟨hL,hrest⟩:KO tab tbl loops an old n I c/\m6 tab tbl loops an old n c I:=⟨M (I,c) (ym ..),λq hq=>M q (yg _ hq)⟩
  cases hlo:loops I with
  |none=>
   simp only[hlo]at h';unfold vU at h';exfalso;obtain⟨vs,h2,_⟩:=nY Y h';obtain⟨_,_,h3,_⟩:=x9 h2;cases h3
  |some L=>
   obtain⟨live',B,hl',hinc,hrun,hB⟩:=hL L hlo;rw[hlive]at hl';obtain rfl:=ya hl';obtain⟨st1,tmps1,U,h2,h3,h4⟩:=sW Y hinc h';simp only[hlo]at U;split at U<;>try contradiction
   rename_i s hs;have h1':((L.run s).bind λx=>D3 (aQ R) L.outs x k)=some r:=U;obtain⟨x,hx,h1'⟩:=yp1.1 h1';have h5:=lL h1';obtain⟨_,e2,e3⟩:=lD hs;rw[hrun]at hx;have Z:b7 P C an n old (.loop c) I ⟨tmps,aB st.mem⟩ k1=(cP I an.live).bind λlive=>iP (dL I an.keep) old live (λst k=>b7 P C an n old c I st k) n ⟨tmps,aB st.mem⟩ k1:=rfl;rw[Z,hlive,ye];cases n with
   |zero=>cases hx
   |succ j=>
    have:=FH (k1:=k1) (ih hd) hrest hb5 hinc hB (λJ V O=>W _ _ J h5 V O) j s tmps1 hx (h3.of_le e3) (h4.trans hm);simp only[iP];rw[h2,<-e2];exact this
 |region rid ops draw=>
  intro R R1 r r1 I st k k1 tmps M Y hm h W;have h:B4 (aQ R) an rid old st (λst=>mI (aQ R) tab tbl an rid ops draw st (λK=>k .normal K))=some r:=h;obtain⟨st1,tmps1,h,htd,he1,hlen⟩:=A7 Y h;have hm1:=hlen.trans hm;have Z:b7 P C an n old (.region rid ops draw) I ⟨tmps,aB st.mem⟩ k1=(wI an rid old ⟨tmps,aB st.mem⟩).bind λst=>gQ P C an rid ops draw st (λK=>k1 .normal K):=rfl;rw[Z,htd,ye];refine sK ht hC (st:=st1) (λo ho d hdst=>?_) he1 h λK J U V O=>W .normal K J U V (O.trans hm1);have hd':(ops.toList.all λo=>match o.dst with|some d=>Nat.blt d m|none=>true)=true:=hd;rw[yi2]at hd';have:=hd' o ho;rw[hdst]at this;simp only at this;rw[hm1];rw[Nat.blt_eq]at this;exact this
 |goto l=>
  intro R R1 r r1 I st k k1 tmps M Y hm h W;exact W (.goto l) st tmps h Y hm
 |scope c=>cases c with
  |seq x y=>cases x with
   |region r1' o1 d1=>cases y with
    |seq x2 y2=>cases x2 with
     |region r2' o2 d2=>cases y2 with
      |seq x3 b=>cases x3 with
       |label l=>
        intro R R1 r r1 I st k k1 tmps M Y hm h W;have ih:= @IH b (by simp at hN;omega);have hd0:((o1.toList.all λo=>match o.dst with|some d=>Nat.blt d m|none=>true)&&((o2.toList.all λo=>match o.dst with|some d=>Nat.blt d m|none=>true)&&gV m b))=true:=hd;rw[yb,yb]at hd0;obtain⟨hd1,hd2,hd3⟩:=hd0;have dst: ∀(ops:Array Oper),(ops.toList.all λo=>match o.dst with|some d=>Nat.blt d m|none=>true)=true->∀o∈ops.toList,∀d,o.dst=some d->d<m:=by
         intro ops hd' o ho d hdst;rw[yi2]at hd';have:=hd' o ho;rw[hdst]at this;simp only at this;rw[Nat.blt_eq]at this;exact this
        have h:B4 (aQ R) an r1' old st (λst=>mI (aQ R) tab tbl an r1' o1 d1 st (λst=>B4 (aQ R) an r2' old st (λst=>mI (aQ R) tab tbl an r2' o2 d2 st (λst=>match cP (bO l) an.live with
         |some live=>vU (aQ R) (dL (bO l) an.keep) old live st λst1=>
          (match loops (bO l) with
          |some L=>(match sB false L.heads .normal st1 with
           |some s=>(aQ R).bind (L.run s) λx=>D3 (aQ R) L.outs x k
           |none=>none)
          |none=>none)
         |none=>none))))=some r:=h
        obtain⟨st1,tmps1,h,htd,he1,hlen⟩:=A7 Y h;have Z:b7 P C an n old (.scope (.seq (.region r1' o1 d1) (.seq (.region r2' o2 d2) (.seq (.label l) b)))) I ⟨tmps,aB st.mem⟩ k1=(wI an r1' old ⟨tmps,aB st.mem⟩).bind λst=>gQ P C an r1' o1 d1 st λst=>
         (wI an r2' old st).bind λst=>gQ P C an r2' o2 d2 st λst=>
         (cP (bO l) an.live).bind λlive=>iP (dL (bO l) an.keep) old live (λst k=>b7 P C an n old b (bO l) st (HV l k)) n st k1:=rfl
        rw[Z,htd,ye];refine sK ht hC (st:=st1) (λo ho d hdst=>by rw[hlen,hm];exact dst o1 hd1 o ho d hdst) he1 h λK J U V O=>?_;obtain⟨st2,tmps2,U,htd2,he2,hlen2⟩:=A7 V U;rw[htd2,ye];refine sK ht hC (st:=st2) (λo ho d hdst=>by rw[hlen2,O,hlen,hm];exact dst o2 hd2 o ho d hdst) he2 U λst3 tmps3 h3 he3 hm3=>?_;have hmm:tmps3.length=m:=by rw[hm3,hlen2,O,hlen,hm]
        split at h3<;>try contradiction
        rename_i live hlive;obtain⟨hL,hrest⟩:KO tab tbl loops an old n (bO l) b/\m6 tab tbl loops an old n b (bO l):=⟨M (bO l,b) (ym ..),λq hq=>M q (yg _ hq)⟩
        cases hlo:loops (bO l)with
        |none=>
         simp only[hlo]at h3;unfold vU at h3;exfalso;obtain⟨vs,h2,_⟩:=nY he3 h3;obtain⟨_,_,h3,_⟩:=x9 h2;cases h3
        |some L=>
         obtain⟨live',B,hl',hinc,hrun,hB⟩:=hL L hlo;rw[hlive]at hl';obtain rfl:=ya hl';obtain⟨st4,tmps4,U,h2,h3,h4⟩:=sW he3 hinc h3;simp only[hlo]at U;split at U<;>try contradiction
         rename_i s hs;have h1':((L.run s).bind λx=>D3 (aQ R) L.outs x k)=some r:=U;obtain⟨x,hx,h1'⟩:=yp1.1 h1';have h5:=lL h1';obtain⟨_,e2,e3⟩:=lD hs;rw[hrun]at hx;rw[hlive,ye];cases n with
         |zero=>cases hx
         |succ j=>
          have:=Ds (k1:=k1) (ih hd3) hrest hinc hB (λJ V O=>W _ _ J h5 V O) j s tmps4 hx (h3.of_le e3) (h4.trans hmm);simp only[iP];rw[h2,<-e2];exact this
       |_=>intro R R1 r r1 I st k k1 tmps M Y hm h W;cases h
      |_=>intro R R1 r r1 I st k k1 tmps M Y hm h W;cases h
     |_=>intro R R1 r r1 I st k k1 tmps M Y hm h W;cases h
    |_=>intro R R1 r r1 I st k k1 tmps M Y hm h W;cases h
   |_=>intro R R1 r r1 I st k k1 tmps M Y hm h W;cases h
  |_=>intro R R1 r r1 I st k k1 tmps M Y hm h W;cases h
 |_=>intro R R1 r r1 I st k k1 tmps M Y hm h W;cases h
end
end Go.Ab
