/- The evaluator. -/
import Derived.Test.YtjjjbgicidhpfaaDoorLib3
import Derived.ScopeJumps
set_option linter.unusedVariables false
set_option linter.unusedSectionVars false
set_option linter.unusedSimpArgs false
section
namespace Go.Ab
variable [b3]
def jU(f:i7)(mem:aK)(a:Nat)(x:bG):bG:=
 {gen:=(match mR mem a with|some h=>h+x.gen|none=>0),frz:=x.frz,row:=x.row.ren f}
theorem bQ: ∀{wr:List (Nat×bG)} {mem:aK},(aM mem wr).length=mem.length
 | [],mem=>rfl
 |(b,x)::r,mem=>by rw[aM,bQ];simp
theorem lY{f:i7}{mem:aK}: ∀{ids:List Nat} {q H:aK} {b:Nat},(∀(j:Nat) (y:bG),ids[j]?=some b->q[j]?=some (some y)->False)->(aM H (bE f mem ids q))[b]?=H[b]?
 | [],q,H,b,h=>by simp[bE,aM]
 |a::ids,[],H,b,h=>by simp[bE,aM]
 |a::ids,none::q,H,b,h=>by
  simp only[bE];exact lY (λj y J I=>h (j+1) y (by simpa using J) (by simpa using I))
 |a::ids,some x::q,H,b,h=>by
  simp only[bE,aM];rw[lY (ids:=ids) (q:=q) (λj y J I=>h (j+1) y (by simpa using J) (by simpa using I))];rw[yp (λe=>h 0 x (by simp[e]) (by simp))]
theorem rP{f:i7}{mem:aK}: ∀{ids:List Nat} {q H:aK} {b j:Nat} {y:bG},dB ids=true->ids[j]?=some b->q[j]?=some (some y)->b<H.length->
  (aM H (bE f mem ids q))[b]?=some (some (jU f mem b y))
 | [],q,H,b,j,y,_,h,_,_=>by simp at h
 |a::ids,[],H,b,j,y,_,_,h,_=>by simp at h
 |a::ids,none::q,H,b,0,y,_,_,h,_=>by simp at h
 |a::ids,none::q,H,b,j+1,y,hn,I,J,K=>by
  simp only[bE];simp only[dB,yb]at hn;exact rP hn.2 (by simpa using I) (by simpa using J) K
 |a::ids,some x::q,H,b,0,y,hn,I,J,K=>by
  simp only[bE,aM];simp at I J;subst I J;simp only[dB,yb,yq]at hn;rw[lY (λj y I _=>by rw[n4.2 (yt I)]at hn;simp at hn),yw K];rfl
 |a::ids,some x::q,H,b,j+1,y,hn,I,J,K=>by
  simp only[bE,aM];simp only[dB,yb]at hn;exact rP hn.2 (by simpa using I) (by simpa using J) (by simpa using K)
theorem k8{f:i7}: ∀{m:aK} {i:Nat},(d9 f m)[i]?=(m[i]?).map λo=>o.map λx=>{gen:=0,frz:=x.frz,row:=x.row.ren f}
 | [],i=>by simp[d9]
 |some x::r,0=>by simp[d9]
 |none::r,0=>by simp[d9]
 |some x::r,i+1=>by simp[d9,k8 (m:=r)]
 |none::r,i+1=>by simp[d9,k8 (m:=r)]
theorem sO{a b:List Nat}:rI a b=true->∀x∈a,x∉b:=by
 induction a with
 |nil=>simp
 |cons m r J=>
  intro h x H I;simp only[rI,yb,yq]at h;rcases yl1.1 H with rfl|H
  ·rw[n4.2 I]at h;simp at h
  ·exact J h.2 x H I
section
variable {P:Program}
def w9(G:Gh)(w:World)(mem:aK)(ids:List Nat)(B:Nat):Prop:=
 w.heap.size≤B\/∃(b:Nat) (x:bG) (C:Nat),b∈ids/\mem[b]?=some (some x)/\d5 G b x C/\(B=C\/∃i c,cA w C x.row i c B)
def Ld(G:Gh)(w:World)(mem:aK)(ids lent:List Nat):Gh:={loc:=q6 0 true G mem ids,prot:=(G.lend (aW G w mem lent)).prot,mine:=w9 G w mem ids}
theorem w9.mine{G:Gh}{w:World}{mem:aK}{ids:List Nat}{B:Nat}(hM:aI G w mem)(h:w9 G w mem ids B):G.mine B:=by
 rcases h with h|⟨b,x,C,_,H,hC,rfl|⟨i,c,I⟩⟩
 ·exact hM.own B h
 ·let ⟨_,_,_,h,_⟩:=hM.blk H hC;exact h
 ·exact(hM.inn H hC I).1
theorem aI.blk_lt{G:Gh}{w:World}{mem:aK}(hM:aI G w mem){b:Nat}{x:bG}{L:BI}{B:Nat}(H:mem[b]?=some (some x))(I:G.loc b x.gen=some L)(hB:L.blk=some B):B<w.heap.size:=hM.blkSz H ⟨L,I,hB⟩
theorem aI.lent_apart{G:Gh}{w:World}{mem:aK}{ids lent:List Nat}(hM:aI G w mem)(Z:rI lent ids=true){b:Nat}{x:bG}{C B:Nat}(O:b∈ids)(N:mem[b]?=some (some x))(hC:d5 G b x C)(hB:B=C\/∃i c,cA w C x.row i c B)(o:Nat): ¬aW G w mem lent B o:=by
 rintro⟨H,J,Y,W,I,_,K,V⟩
 have M:H≠b:=by rintro rfl;exact sO Z H J O
 have hO:iF G w mem b B:=⟨H,Y,W,M,I,K,V⟩
 rcases hB with rfl|⟨i,c,U⟩
 ·exact hM.other_ne N hC hO rfl
 ·exact hM.other_inn N hC U hO
theorem NY{G:Gh}{w:World}{mem:aK}{ids lent:List Nat}(hM:aI G w mem)(hn:dB ids=true)(M:rI lent ids=true):aI (Ld G w mem ids lent) w (dN 0 true (eU 0 true mem ids) mem 0 ids):=by
 refine Fp hM hn rfl (λ_ _ _ h=> .inl h) (λb x B J I N hB β o H=>?_) (λb x B J I hB=> .inr ⟨b,x,B,J,I,hB,.inl rfl⟩) (λb x B i c B' J I hB K=>⟨.inr ⟨b,x,B,J,I,hB,.inr ⟨i,c,K⟩⟩,fun β o H=>?_⟩) (λB h=> .inl h) (λB o h=>?_) (fun β B o h=>?_)
 ·rcases H with H|⟨_,H⟩
  ·let ⟨_,_,_,_,_,_,_,h⟩:=hM.blk I hB;exact h N β o H
  ·exact hM.lent_apart M J I hB (.inl rfl) o H
 ·rcases H with H|⟨_,H⟩
  ·exact(hM.inn I hB K).2.2.2 β o H
  ·exact hM.lent_apart M J I hB (.inr ⟨i,c,K⟩) o H
 ·rcases h with h|⟨h,_⟩
  ·exact .inl (hM.lab B o h)
  ·cases h
 ·rcases h with h|⟨_,h⟩
  ·exact hM.away β B o h
  ·exact hM.inBoxes_lt B o h
def fS(G G3:Gh)(mem q:aK)(ids:List Nat)(len:Nat):Nat->Nat->Option BI:=λa g=>
 if a<mem.length then
  match sC a ids 0 with
  |some j=>match q[j]? with
   |some (some y)=>if g=(jU (λ_ _=>none) mem a y).gen then G3.loc j y.gen else G.loc a g
   |_=>G.loc a g
  |none=>G.loc a g
 else if g=0/\ids.length+(a-mem.length)<len then G3.loc (ids.length+(a-mem.length)) 0 else none
theorem pQ: ∀{ids:List Nat} {b n j:Nat},dB ids=true->ids[j]?=some b->sC b ids n=some (n+j)
 | [],b,n,j,_,h=>by simp at h
 |m::r,b,n,0,_,h=>by simp at h;subst h;simp[sC]
 |m::r,b,n,j+1,hn,h=>by
  have I:m≠b:=by
   rintro rfl
   have:=pI (i:=0) (j:=j+1) hn (by simp) h;omega
  simp only[dB,yb]at hn;simp only[sC];have H:Nat.beq m b=false:=by
   cases H:Nat.beq m b with
   |false=>rfl
   |true=>exact absurd (bI.1 H) I
  rw[H];simp only[yj];rw[pQ hn.2 (by simpa using h)];congr 1;omega
theorem Id{G G3 G4:Gh}{w w':World}{mem q sub:aK}{ids lent:List Nat}{r:AV}{cv qv:Value}{qr:AV}(hM:aI G w mem)(hn:dB ids=true)(hd:rI lent ids=true)
  (hR:OE (Ld G w mem ids lent) w (dN 0 true (eU 0 true mem ids) mem 0 ids) (qr,q) G3 w' qv) (hlent:eX lent=true\/(r.lent=false/\gA q=false))
  (hv:VR G4 w' r cv) (h4m:G4.mine=G3.mine) (h4l:G4.loc=G3.loc) (h4p: ∀β B o,G3.prot β B o->G4.prot β B o) (h4n: ∀β B o,G4.prot β B o->G3.prot β B o\/kK G3 q sub.length B o) (h4lab: ∀B o,G4.prot false B o->G4.prot true B o)
  (hsub: ∀j:Nat,j<sub.length->sub[j]?=q[j]?) (hsl:ids.length≤sub.length) (hql:sub.length≤q.length):
  ∃G':Gh,VR G' w' (r.ren (cI mem sub ids)) cv/\cJ G G'/\Ev G w w'/\aI G' w' (aM mem (bE (cI mem sub ids) mem ids q)++d9 (cI mem sub ids) (sub.drop ids.length)):=by
 obtain⟨hv3,hev,hmine3,hprot3,hnew3,hM3,hgens,hkept,hnones⟩:=hR;simp only at hM3 hgens hkept hnones;have hpl:(dN 0 true (eU 0 true mem ids) mem 0 ids).length=ids.length:=by
  have h1: ∀(l:List Nat) (n:Nat),(dN 0 true (eU 0 true mem ids) mem n l).length=l.length:=by
   intro l
   induction l with
   |nil=>intro n;rfl
   |cons b l ih=>intro n;simp only[dN,ym2,ih]
  exact h1 ids 0
 rw[hpl]at hgens
 -- a box of ids
 have hq: ∀{j a:Nat} {y:bG},ids[j]?=some a->q[j]?=some (some y)->∃x,mem[a]?=some (some x)/\y.row.isCells=x.row.isCells/\∀L,G.loc a x.gen=some L->G3.loc j 0=some L:=by
  intro j a y hj K;cases Y:mem[a]? with
  |none=>
   have:=hnones j (by rw[d8,hj];simp[Y]);rw[K]at this;cases this
  |some o=>
   cases o with
   |none=>
    have:=hnones j (by rw[d8,hj];simp[Y]);rw[K]at this;cases this
   |some x=>
    obtain⟨y',Z,hk,hl⟩:=hkept j {gen:=eY 0 true x.row.isCells j x.gen,frz:=x.frz,row:=x.row.ren (eU 0 true mem ids)} (by rw[d8,hj];simp[Y]);rw[K]at Z;obtain rfl:y=y':=by simpa using Z
    simp only[cT]at hk hl;refine⟨x,rfl,hk,λL hL=>hl L ?_⟩;have h0:eY 0 true x.row.isCells j x.gen=0:=by simp[eY,wL]
    simp[Ld,q6,hj,jF.2 ⟨x,Y,rfl⟩,kU Y,h0,hL]
 have hq2: ∀{j a:Nat} {x:bG},ids[j]?=some a->mem[a]?=some (some x)->∃y,q[j]?=some (some y):=by
  intro j a x hj Y;obtain⟨y',Z,_⟩:=hkept j {gen:=eY 0 true x.row.isCells j x.gen,frz:=x.frz,row:=x.row.ren (eU 0 true mem ids)} (by rw[d8,hj];simp[Y]);exact⟨y',Z⟩
 have hbgen: ∀{a:Nat} {x y:bG} {f:i7},mem[a]?=some (some x)->(jU f mem a y).gen=x.gen+y.gen:=by
  intro a x y f Y;simp[jU,jF.2 ⟨x,Y,rfl⟩]
 have hcome: ∀B,G3.mine B->w9 G w mem ids B:=λB h=>by rw[hmine3]at h;exact h
 have hEv:Ev G w w':=⟨hev.size,hev.out,hev.os,λB hB hm=>hev.away B hB (λh=>hm (w9.mine hM h)),hev.some,fun β B o h=>hev.prot β B o (.inl h),hev.fz,hev.tape⟩
 -- the protection
 let pr:Bool->Nat->Nat->Prop:=fun β B o=>if β=true then(if eX lent=true then G4.prot true B o else G.prot true B o\/G4.prot false B o)else G4.prot false B o
 have hnbc: ∀{b:Nat} {x:bG} {L:BI} {B:Nat},q[b]?=some (some x)->G3.loc b x.gen=some L->L.blk=some B->w9 G w mem ids B:=λY hl hB=>hcome _ (hM3.mine Y hl hB);have hnb4: ∀β B o,G4.prot β B o->G3.prot β B o\/w9 G w mem ids B:=fun β B o h=>(h4n β B o h).imp id (by rintro⟨b,x,L,_,Y,hl,hB⟩;exact hnbc Y hl hB);have hsem: ∀B o,eX lent=true->¬aW G w mem lent B o:=by
  rintro B o he ⟨b,hb,_⟩
  rw[mA he]at hb;cases hb
 have hprle: ∀β B o,pr β B o->(∃β',G.prot β' B o)\/w9 G w mem ids B:=by
  intro β B o h;have h3: ∀β,(β=true->eX lent=true)->G4.prot β B o->(∃β',G.prot β' B o)\/w9 G w mem ids B:=by
   intro β hβ h;rcases hnb4 β B o h with h|h
   ·rcases hnew3 β B o h with h|h
    ·rcases h with h|⟨h,h'⟩
     ·exact .inl ⟨_,h⟩
     ·exact absurd h' (hsem B o (hβ h))
    ·exact .inr h
   ·exact .inr h
  simp only[pr]at h;split at h
  ·split at h
   ·rename_i he;exact h3 true (λ_=>he) h
   ·rcases h with h|h
    ·exact .inl ⟨_,h⟩
    ·exact h3 false (λh=>by cases h) h
  ·exact h3 false (λh=>by cases h) h
 have hG4: ∀β B o,G.prot β B o->G4.prot β B o:=fun β B o h=>h4p β B o (hprot3 β B o (.inl h));have hprG: ∀β B o,G.prot β B o->pr β B o:=by
  intro β B o h;simp only[pr];cases β with
  |true=>simp only[if_true];split;exact hG4 _ _ _ h;exact .inl h
  |false=>simp only[yl2,if_false];exact hG4 _ _ _ h
 have hpr4: ∀β B o,pr β B o->∃β',G4.prot β' B o:=by
  intro β B o h;simp only[pr]at h;split at h
  ·split at h
   ·exact⟨_,h⟩
   ·rcases h with h|h
    ·exact⟨_,hG4 _ _ _ h⟩
    ·exact⟨_,h⟩
  ·exact⟨_,h⟩
 have hprnew: ∀β B o,pr β B o->G.prot β B o\/G.mine B:=by
  intro β B o h;have h3: ∀β,(β=true->eX lent=true)->G4.prot β B o->G.prot β B o\/G.mine B:=by
   intro β hβ h;rcases hnb4 β B o h with h|h
   ·rcases hnew3 β B o h with h|h
    ·rcases h with h|⟨h,h'⟩
     ·exact .inl h
     ·exact absurd h' (hsem B o (hβ h))
    ·exact .inr (w9.mine hM h)
   ·exact .inr (w9.mine hM h)
  simp only[pr]at h;split at h
  ·rename_i hβ;subst hβ;split at h
   ·rename_i he;exact h3 true (λ_=>he) h
   ·rcases h with h|h
    ·exact .inl h
    ·rcases h3 false (λh=>by cases h) h with h|h
     ·exact .inl (hM.lab _ _ h)
     ·exact .inr h
  ·rename_i hβ;have:β=false:=by simpa using hβ
   subst this;exact h3 false (λh=>by cases h) h
 let G':Gh:={mine:=G.mine,prot:=pr,loc:=fS G G3 mem q ids sub.length}
 have hlen:(aM mem (bE (cI mem sub ids) mem ids q)).length=mem.length:=bQ
 -- where boxes stand
 have lB: ∀{j a:Nat} {y:bG} {f:i7},ids[j]?=some a->q[j]?=some (some y)->G'.loc a (jU f mem a y).gen=G3.loc j y.gen:=by
  intro j a y f hj K;obtain⟨x,Y,_⟩:=hq hj K;have V:a<mem.length:=(yd.1 Y).1;show fS G G3 mem q ids sub.length a _=_;unfold fS;rw[if_pos V,pQ hn hj];simp only[yy,K];rw[if_pos (by rfl)]
 have lO: ∀{a g:Nat},a<mem.length->a∉ids->G'.loc a g=G.loc a g:=by
  intro a g V I;show fS G G3 mem q ids sub.length a g=_;unfold fS;rw[if_pos V];cases M:sC a ids 0 with
  |none=>rfl
  |some j=>
   obtain⟨i,rfl,hj⟩:=y4 M;exact absurd (yt hj) I
 have lN: ∀{i:Nat},ids.length+i<sub.length->G'.loc (mem.length+i) 0=G3.loc (ids.length+i) 0:=by
  intro i M;show fS G G3 mem q ids sub.length (mem.length+i) 0=_;unfold fS;rw[if_neg (by omega),yc3,if_pos ⟨rfl,M⟩]
 have hGle:cJ G G':=by
  refine⟨rfl,hprG,λa g L hL=>?_,hprnew⟩;by_cases V:a<mem.length
  ·show fS G G3 mem q ids sub.length a g=_;unfold fS;rw[if_pos V];cases M:sC a ids 0 with
   |none=>exact hL
   |some j=>
    obtain⟨i,rfl,hj⟩:=y4 M;simp only[yy];split
    ·rename_i y K;split
     ·rename_i hg;obtain⟨x,Y,hk,hc⟩:=hq hj K;rw[hbgen Y]at hg;subst hg;by_cases h0:y.gen=0
      ·rw[h0,yk1]at hL;rw[h0];exact hc L hL
      ·rw[hM.gens a x _ Y (by omega)]at hL;cases hL
     ·exact hL
    ·exact hL
  ·rw[hM.unset a g (λx Y=>V (yd.1 Y).1)]at hL;cases hL
 -- renaming back
 have hren:Cb G4 G' (cI mem sub ids):=by
  intro b g p L hp hL;unfold cI at hp;rw[h4l]at hL;split at hp
  ·rename_i a V;split at hp
   ·rename_i y h' K hgen;cases hge:Nat.beq y.gen g with
    |false=>rw[hge]at hp;cases hp
    |true=>
     rw[hge]at hp;simp only[yl]at hp;obtain rfl:=ya hp;obtain rfl:=bI.1 hge;have hb:b<ids.length:=(yd.1 V).1;rw[hsub b (by omega)]at K;have:=lB (f:=λ_ _=>none) V K;simp only[jU,hgen]at this;simp only;rw[this];exact hL
   ·cases hp
  ·rename_i hno;cases hlt:(Nat.beq g 0&&Nat.blt b sub.length)with
   |false=>rw[hlt]at hp;simp at hp
   |true=>
    rw[hlt]at hp;simp only[yl]at hp;obtain rfl:=ya hp;simp only[yb]at hlt;obtain rfl:=bI.1 hlt.1;have hb:b<sub.length:=by have:=hlt.2;simp[Nat.blt]at this;omega
    have hge:=List.getElem?_eq_none_iff.1 hno;have:=lN (i:=b-ids.length) (by omega);simp only;rw[this,show ids.length+(b-ids.length)=b by omega];exact hL
 have hp4: ∀{l:Bool},l=eX lent->∀β B o,(β=true->l=true)->G4.prot β B o->G'.prot β B o:=by
  intro l hl β B o hβ h;show pr β B o;simp only[pr];cases β with
  |true=>simp only[if_true];rw[if_pos (by rw[<-hl];exact hβ rfl)];exact h
  |false=>simp only[yl2,if_false];exact h
 have hren3:Cb G3 G' (cI mem sub ids):=λb g p L hp hL=>hren b g p L hp (by rw[h4l];exact hL);have hrowlent: ∀{j:Nat} {y:bG},q[j]?=some (some y)->pH y.row=true->eX lent=true:=by
  intro j y K hl;rcases hlent with h|⟨_,h⟩
  ·exact h
  ·rw[mX K hl]at h;cases h
 have hin3: ∀{j:Nat} {y:bG} {C i c X:Nat},q[j]?=some (some y)->d5 G3 j y C->cA w' C y.row i c X->G.mine X/\∀β o,¬pr β X o:=by
  intro j y C i c X K hC M;obtain⟨k1,_,_,k4⟩:=hM3.inn K hC M;refine⟨w9.mine hM (hcome X k1),fun β o hp=>?_⟩;obtain⟨β',hp'⟩:=hpr4 β X o hp;rcases h4n β' X o hp' with hp'|⟨b,x,L,hb,Y,hL,hB⟩
  ·exact k4 β' o hp'
  ·exact hM3.inA j b y x C i c X K hC M Y ⟨L,hL,hB⟩
 -- a box of the callee's, at its new number
 have hbox: ∀{j a g:Nat} {y:bG},j<sub.length->q[j]?=some (some y)->G'.loc a g=G3.loc j y.gen->ON G' w' a {gen:=g,frz:=y.frz,row:=y.row.ren (cI mem sub ids)}:=by
  intro j a g y hjs K W;have hby:=hM3.box j y K;obtain⟨o,a0,hl,ha0,hm⟩:=hby.loc;refine⟨by simp only[lG];exact hby.e,o,a0,by simp only[lG,h8];rw[W];exact hl,by simp only[o6];exact ha0,?_⟩;cases o with
  |none=>simp only[h8,cT];exact hm
  |some B=>
   obtain⟨h1,h2,h3,h4,h5⟩:=hm;have hmB:G.mine B:=w9.mine hM (hcome B h1);refine⟨hmB,h2,h3,h4.ren (l:=eX lent) hren3 (fun β B o hβ h=>hp4 rfl β B o hβ (h4p β B o h)) (hrowlent K) (λi c X M=>hin3 K ⟨_,hl,rfl⟩ M),λhf β o hp=>?_⟩;obtain⟨β',hp'⟩:=hpr4 β B o hp;rcases h4n β' B o hp' with hp'|⟨b,x,L,hb,Y,hL,hB⟩
   ·exact h5 hf β' o hp'
   ·have:=hM3.apart j b y x _ L B K Y hl hL rfl hB;omega
 -- entries
 have hent: ∀(a:Nat) (z:bG),(aM mem (bE (cI mem sub ids) mem ids q)++d9 (cI mem sub ids) (sub.drop ids.length))[a]?=some (some z)->
   (a<mem.length/\a∉ids/\mem[a]?=some (some z))\/
   (∃j y,j<sub.length/\q[j]?=some (some y)/\z={gen:=z.gen,frz:=y.frz,row:=y.row.ren (cI mem sub ids)}/\G'.loc a z.gen=G3.loc j y.gen/\((∃x,ids[j]?=some a/\mem[a]?=some (some x)/\x.gen≤z.gen)\/(∃i,j=ids.length+i/\a=mem.length+i/\z.gen=0))):=by
  intro a z H;by_cases V:a<mem.length
  ·rw[yn (by rw[hlen];exact V)]at H;by_cases M: ∃(j:Nat) (y:bG),ids[j]?=some a/\q[j]?=some (some y)
   ·obtain⟨j,y,hj,K⟩:=M;rw[rP hn hj K V]at H;obtain rfl:jU (cI mem sub ids) mem a y=z:=by simpa using H
    obtain⟨x,Y,hk,_⟩:=hq hj K;have hjl:=(yd.1 hj).1;refine .inr ⟨j,y,by omega,K,rfl,lB hj K,.inl ⟨x,hj,Y,?_⟩⟩;rw[hbgen Y];omega
   ·rw[lY (λj y h1 h2=>M ⟨j,y,h1,h2⟩)]at H;refine .inl ⟨V,λhm=>?_,H⟩;obtain⟨j,hj,rfl⟩:=yw1 hm;obtain⟨y,K⟩:=hq2 (yf hj) H;exact M ⟨j,y,yf hj,K⟩
  ·rw[yu (by rw[hlen];omega),hlen,k8,yz]at H;obtain⟨o,ho,H⟩:=yc.1 H;cases o with
   |none=>simp at H
   |some y=>
    simp only[yh,Option.some.injEq]at H;have hjl:=(yd.1 ho).1;rw[hsub _ hjl]at ho;have hg0:=hgens _ y (.inl (by omega)) ho;refine .inr ⟨_,y,hjl,ho,by rw[<-H],?_,.inr ⟨a-mem.length,rfl,by omega,by rw[<-H]⟩⟩;have:=lN hjl;rw[show mem.length+(a-mem.length)=a by omega]at this;rw[<-H,hg0];exact this
 have hblk3: ∀{a j:Nat} {z y:bG} {B:Nat},G'.loc a z.gen=G3.loc j y.gen->d5 G' a z B->d5 G3 j y B:=by
  rintro a j z y B W ⟨L,hl,hB⟩
  rw[W]at hl;exact⟨L,hl,hB⟩
 have hblkO: ∀{a:Nat} {z:bG} {B:Nat},a<mem.length->a∉ids->d5 G' a z B->d5 G a z B:=by
  rintro a z B V I ⟨L,hl,hB⟩
  rw[lO V I]at hl;exact⟨L,hl,hB⟩
 have hc3: ∀{j:Nat} {y:bG} {C B:Nat},q[j]?=some (some y)->d5 G3 j y C->(B=C\/∃i c,cA w' C y.row i c B)->w9 G w mem ids B:=by
  rintro j y C B K hC (rfl|⟨i,c,M⟩)
  ·let ⟨_,_,_,h,_⟩:=hM3.blk K hC;exact hcome _ h
  ·exact hcome _ (hM3.inn K hC M).1
 have O: ∀{a:Nat} {z:bG} {C B:Nat},a∉ids->mem[a]?=some (some z)->d5 G a z C->(B=C\/∃i c,cA w C z.row i c B)->¬w9 G w mem ids B:=by
  intro a z C B V H hC hB hc;rcases hc with hc|⟨b,x,D,hb,Y,hD,OS⟩
  ·rcases hB with rfl|⟨i,c,M⟩
   ·have:=hM.blkSz H hC;omega
   ·have:=(hM.inn H hC M).2.1;omega
  ·have hne:b≠a:=by rintro rfl;exact V hb
   have hO:iF G w mem a B:=⟨b,x,D,hne,Y,hD,OS⟩
   rcases hB with rfl|⟨i,c,M⟩
   ·exact hM.other_ne H hC hO rfl
   ·exact hM.other_inn H hC M hO
 have hsame: ∀{a:Nat} {z:bG} {C B:Nat},a∉ids->mem[a]?=some (some z)->d5 G a z C->(B=C\/∃i c,cA w C z.row i c B)->w'.heap[B]?=w.heap[B]?:=by
  intro a z C B V H hC hB;have hlt:B<w.heap.size:=by
   rcases hB with rfl|⟨i,c,M⟩
   ·exact hM.blkSz H hC
   ·exact(hM.inn H hC M).2.1
  exact hev.away B hlt (O V H hC hB)
 have hinO: ∀{a:Nat} {z:bG} {C i c X:Nat},a∉ids->mem[a]?=some (some z)->d5 G a z C->cA w' C z.row i c X->cA w C z.row i c X:=λV H hC M=>M.same λo=>cX (hsame V H hC (.inl rfl)) o;refine⟨G',hv.ren (l:=eX lent) hren (hp4 rfl) (λhl=>?_),hGle,hEv,?_⟩
 ·rcases hlent with h|⟨h,_⟩
  ·exact h
  ·rw[h]at hl;cases hl
 refine⟨λa z H=>?_,λa g H=>?_,λa z g H hlt=>?_,λa a' z z' L L' B H U hl hl' hk hk'=>?_,λa a' z z' B i c X H hk M U hk'=>?_,λa a' z z' B C i c i' c' X H hk M U hk' hi'=>?_,λB hB=>hM.own B (yc2 hEv.size hB),λB o h=>?_,fun β B o h=>?_,hM.glob.mono (hGle.prot true) (hEv.prot true)⟩
 ·rcases hent a z H with ⟨V,I,H⟩|⟨j,y,hjs,K,hze,W,_⟩
  ·have hbz:=hM.box a z H;obtain⟨o,a0,hl,ha0,hm⟩:=hbz.loc;refine⟨hbz.e,o,a0,by rw[lO V I];exact hl,ha0,?_⟩;cases o with
   |none=>exact hm
   |some B=>
    obtain⟨h1,h2,h3,h4,h5⟩:=hm;have hB:d5 G a z B:=⟨_,hl,rfl⟩
    have hnc:=O I H hB (.inl rfl);have hh:w'.heap[B]?=w.heap[B]?:=hsame I H hB (.inl rfl);refine⟨h1,yy1 h2 hEv.size,h3.of_heap hh,h4.mono hGle hEv (λo _=>cX hh o) (λi c X M=>⟨.of (hsame I H hB (.inr ⟨i,c,M⟩)),fun β o hp=>?_⟩),λhf β o hp=>?_⟩
    ·rcases hprle β X o hp with ⟨β',hp⟩|hp
     ·exact(hM.inn H hB M).2.2.2 β' o hp
     ·exact O I H hB (.inr ⟨i,c,M⟩) hp
    ·rcases hprle β B o hp with ⟨β',hp⟩|hp
     ·exact h5 hf β' o hp
     ·exact hnc hp
  ·rw[hze];exact hbox hjs K W
 ·by_cases V:a<mem.length
  ·by_cases I:a∈ids
   ·obtain⟨j,hj,rfl⟩:=yw1 I;have hjj:=yf hj;cases K:q[j]? with
    |none=>
     have:=hql;have:=(List.getElem?_eq_none_iff.1 K);omega
    |some o=>
     cases o with
     |some y=>
      refine absurd ?_ (H (jU (cI mem sub ids) mem ids[j] y));rw[yn (by rw[hlen];exact V)];exact rP hn hjj K V
     |none=>
      show fS G G3 mem q ids sub.length _ g=none;unfold fS;rw[if_pos V,pQ hn hjj];simp only[yy,K];refine hM.unset _ g (λx Y=>?_);obtain⟨y,Z⟩:=hq2 hjj Y;rw[K]at Z;cases Z
   ·rw[lO V I];refine hM.unset a g (λx Y=>H x ?_);rw[yn (by rw[hlen];exact V),lY (λj y h1 _=>I (yt h1))];exact Y
  ·show fS G G3 mem q ids sub.length a g=none;unfold fS;rw[if_neg V];split
   ·rename_i hc;refine hM3.unset _ 0 (λx Y=>?_);refine H {gen:=0,frz:=x.frz,row:=x.row.ren (cI mem sub ids)} ?_;rw[yu (by rw[hlen];omega),hlen,k8,yz,hsub _ hc.2,Y];rfl
   ·rfl
 ·rcases hent a z H with ⟨V,I,H⟩|⟨j,y,hjs,K,hze,W,⟨x,hj,Y,hge⟩|⟨i,rfl,rfl,h0⟩⟩
  ·rw[lO V I];exact hM.gens a z g H hlt
  ·have V:a<mem.length:=(yd.1 Y).1;have J:=lB (f:=λ_ _=>none) hj K;show fS G G3 mem q ids sub.length a g=none;unfold fS;rw[if_pos V,pQ hn hj];simp only[yy,K];have hzg:z.gen=(jU (λ_ _=>none) mem a y).gen:=by
    have hz2:=H;rw[yn (by rw[hlen];exact V),rP hn hj K V]at hz2;obtain rfl:jU (cI mem sub ids) mem a y=z:=by simpa using hz2
    rfl
   rw[if_neg (by omega)];exact hM.gens a x g Y (by omega)
  ·show fS G G3 mem q ids sub.length _ g=none;unfold fS;rw[if_neg (by omega),if_neg (by omega)]
 ·rcases hent a z H with ⟨V,I,H⟩|⟨j,y,hjs,K,hze,W,hw⟩
  ·have hB:=hblkO V I ⟨L,hl,hk⟩;rw[lO V I]at hl;rcases hent a' z' U with ⟨ha',N,U⟩|⟨j',y',hjs',Z,hze',J,hw'⟩
   ·rw[lO ha' N]at hl';exact hM.apart a a' z z' L L' B H U hl hl' hk hk'
   ·exact absurd (hc3 Z (hblk3 J ⟨L',hl',hk'⟩) (.inl rfl)) (O I H hB (.inl rfl))
  ·have hB:=hblk3 W ⟨L,hl,hk⟩;rw[W]at hl;rcases hent a' z' U with ⟨ha',N,U⟩|⟨j',y',hjs',Z,hze',J,hw'⟩
   ·have hB':=hblkO ha' N ⟨L',hl',hk'⟩;exact absurd (hc3 K hB (.inl rfl)) (O N U hB' (.inl rfl))
   ·rw[J]at hl';have hjj:=hM3.apart j j' y y' L L' B K Z hl hl' hk hk';subst hjj;rcases hw with ⟨x,hj,_⟩|⟨i,M,rfl,_⟩
    ·rcases hw' with ⟨x',hj',_⟩|⟨i',hi',rfl,_⟩
     ·rw[hj]at hj';exact ya hj'
     ·have:=(yd.1 hj).1;omega
    ·rcases hw' with ⟨x',hj',_⟩|⟨i',hi',rfl,_⟩
     ·have:=(yd.1 hj').1;omega
     ·omega
 ·rcases hent a z H with ⟨V,I,H⟩|⟨j,y,hjs,K,hze,W,hw⟩
  ·have hB:=hblkO V I hk;have M:=hinO I H hB M;rcases hent a' z' U with ⟨ha',N,U⟩|⟨j',y',hjs',Z,hze',J,hw'⟩
   ·exact hM.inA a a' z z' B i c X H hB M U (hblkO ha' N hk')
   ·exact O I H hB (.inr ⟨i,c,M⟩) (hc3 Z (hblk3 J hk') (.inl rfl))
  ·have hB:=hblk3 W hk;rw[hze]at M;have M:=cA.ren.1 M;rcases hent a' z' U with ⟨ha',N,U⟩|⟨j',y',hjs',Z,hze',J,hw'⟩
   ·exact O N U (hblkO ha' N hk') (.inl rfl) (hc3 K hB (.inr ⟨i,c,M⟩))
   ·exact hM3.inA j j' y y' B i c X K hB M Z (hblk3 J hk')
 ·rcases hent a z H with ⟨V,I,H⟩|⟨j,y,hjs,K,hze,W,hw⟩
  ·have hB:=hblkO V I hk;have M:=hinO I H hB M;rcases hent a' z' U with ⟨ha',N,U⟩|⟨j',y',hjs',Z,hze',J,hw'⟩
   ·have hB':=hblkO ha' N hk';exact hM.inB a a' z z' B C i c i' c' X H hB M U hB' (hinO N U hB' hi')
   ·rw[hze']at hi';exact absurd (hc3 Z (hblk3 J hk') (.inr ⟨i',c',cA.ren.1 hi'⟩)) (O I H hB (.inr ⟨i,c,M⟩))
  ·have hB:=hblk3 W hk;rw[hze]at M;have M:=cA.ren.1 M;rcases hent a' z' U with ⟨ha',N,U⟩|⟨j',y',hjs',Z,hze',J,hw'⟩
   ·have hB':=hblkO ha' N hk';exact absurd (hc3 K hB (.inr ⟨i,c,M⟩)) (O N U hB' (.inr ⟨i',c',hinO N U hB' hi'⟩))
   ·rw[hze']at hi';obtain⟨hjj,h2⟩:=hM3.inB j j' y y' B C i c i' c' X K hB M Z (hblk3 J hk') (cA.ren.1 hi');subst hjj;refine⟨?_,h2⟩;rcases hw with ⟨x,hj,_⟩|⟨i,M,rfl,_⟩
    ·rcases hw' with ⟨x',hj',_⟩|⟨i',hi',rfl,_⟩
     ·rw[hj]at hj';exact ya hj'
     ·have:=(yd.1 hj).1;omega
    ·rcases hw' with ⟨x',hj',_⟩|⟨i',hi',rfl,_⟩
     ·have:=(yd.1 hj').1;omega
     ·omega
 ·show pr true B o;have h':pr false B o:=h;simp only[pr,yl2,if_false]at h';simp only[pr,if_true];split
  ·exact h4lab B o h'
  ·exact .inr h'
 ·obtain⟨β',hp'⟩:=hpr4 β B o h;rcases h4n β' B o hp' with hp'|⟨b,x,L,hb,Y,hL,hB⟩
  ·exact hM3.away β' B o hp'
  ·exact hM3.blk_lt Y hL hB
end
end Go.Ab
end
section
namespace Go.Ab
variable [b3]
section
variable {P:Program}
theorem nH.append{G:Gh}{w:World}{a b:List AV}{u v:Array Value}(h:nH G w a u)(I:nH G w b v):nH G w (a++b) (u++v):=by
 refine⟨by simp[h.1,I.1],λj y H=>?_⟩;by_cases J:j<a.length
 ·rw[yn J]at H;have:=h.2 j y H;rw[yk,yr2 (by rw[<-h.1];exact J),<-yk];exact this
 ·rw[yu (by omega)]at H;have:=I.2 _ y H;rw[yk,Array.getElem?_append_right (by rw[<-h.1];omega),<-h.1,<-yk];exact this
theorem nH.renAll{G H:Gh}{w:World}{f:i7}{as:List AV}{vs:Array Value}(h:nH G w as vs)(hr:Cb G H f)(K: ∀β B o,G.prot β B o->H.prot β B o):nH H w (AV.renAll f as) vs:=by
 refine⟨by rw[eI];simpa using h.1,λj y J=>?_⟩;obtain⟨x,I,rfl⟩:=oS J;exact(h.2 j x I).ren (l:=true) hr (fun β B o _=>K β B o) (λ_=>rfl)
theorem IX{C:bM}(hC:iU P C){G:Gh}{w:World}{mem:aK}(hM:aI G w mem){raw keep:Bool}{g:FuncId}{ts:List TypeId}{Z args ca:List AV}{out:cU}{fv av cv:Array Value}
  (h:vQ P C raw keep g ts Z args ca mem=some out) (hf:nH G w Z fv) (ha:nH G w args av) (hc:nH G w ca cv):Kg P G w mem g (fv++av++cv) out:=by
 unfold vQ at h;rw[bind_some]at h;obtain⟨I,hla,h⟩:=h;simp only at h;generalize hids:fF mem (cW mem (AV.refsAll (Z++I.1++ca)).length) (AV.refsAll (Z++I.1++ca)) []=ids at h;rw[aA]at h;obtain⟨hg,h⟩:=h;simp only[yb]at hg;obtain⟨hn,hd⟩:=hg;rw[bind_some]at h;obtain⟨q,hq,h⟩:=h;rw[aA]at h;obtain⟨hg,h⟩:=h;simp only[yb,yu1,yq,Bool.or_eq_false_iff]at hg;obtain⟨N,H⟩:=hg;have N:=cE.1 N;have hgl:=cJ.lend G (aW G w mem I.2) hM.inBoxes;have U:=If (us:=av.toList) (S:=I.2) hM hla ⟨by simpa using ha.1,λj y hy=>by rw[dR];exact ha.2 j y hy⟩ (λb h=>h);have hall:nH (G.lend (aW G w mem I.2)) w (Z++I.1++ca) (fv++av++cv):=
  ((hf.mono hgl (Ev.refl G w)).append ⟨by simpa using U.1,λj y hy=>by rw[<-dR];exact U.2 j y hy⟩).append (hc.mono hgl (Ev.refl G w))
 have hM1:=NY (lent:=I.2) hM hn hd;have W:nH (Ld G w mem ids I.2) w (AV.renAll (eU 0 true mem ids) (Z++I.1++ca)) (fv++av++cv):=hall.renAll (Ep (G:=G.lend (aW G w mem I.2)) rfl) (λ_ _ _ h=>h);obtain⟨hen,hcl⟩:=hC g _ _ q hq _ w _ hM1 (λj x hx=>by obtain⟨b,y,_,_,rfl⟩:=c7 hx;simp[eY,wL]) W;refine⟨hen,Calls.mono hcl λe w' he=>?_⟩;obtain⟨G3,qv,rfl,hR⟩:=he;obtain⟨qr,qm⟩:=q;simp only at h H N hR;have hR':=hR;obtain⟨K,hev,hmine3,hprot3,hnew3,O,hgens,hkept,hnones⟩:=hR';simp only at K O;have hl3: ∀B o,G3.prot false B o->G3.prot true B o:=O.lab;cases hcd:(e6 ids.length (bif raw then qr else kP ids.length qm qr).refs&&e6 ids.length (b6 (List.take ids.length qm)))with
 |true=>
  rw[hcd]at h;simp only[yl]at h;obtain rfl:=ya h;have htl:(qm.take ids.length).length=ids.length:=by simp;omega
  have key: ∃r,r=(bif raw then qr else kP ids.length qm qr)/\VR (G3.frz (kK G3 qm ids.length)) w' r qv/\(qr.lent=false/\gA qm=false->r.lent=false):=by
   cases raw with
   |true=>exact⟨_,rfl,K.mono (cJ.frz G3 _ (by rintro B o ⟨b,x,L,_,hx,hl,hB⟩;exact O.mine hx hl hB)) (Ev.refl G3 w'),λh=>h.1⟩
   |false=>exact⟨_,rfl,HK O K,λh=>IR h.2 h.1⟩
  obtain⟨r,hr,hvr,hrl⟩:=key;obtain⟨G',V,J,Y,M⟩:=Id (sub:=qm.take ids.length) (lent:=I.2) (r:=r) (cv:=qv) hM hn hd hR (H.imp id (λh=>⟨hrl h,h.2⟩)) hvr rfl rfl (λ_ _ _ h=> .inl h)
   (fun β B o h=>by rw[htl];exact h) (λB o h=>h.imp (hl3 B o) id) (λj hj=>by rw[htl]at hj;rw[yi1,if_pos hj]) (by omega) (by omega)
  refine⟨G',qv,rfl,by rw[<-hr];exact V,J,Y,?_⟩;have hnil:(qm.take ids.length).drop ids.length= []:=List.drop_eq_nil_of_le (by omega);rw[hnil]at M;exact M
 |false=>
  rw[hcd]at h;simp only[yj]at h;obtain rfl:=ya h;obtain⟨G',V,J,Y,M⟩:=Id (sub:=qm) (lent:=I.2) (r:=qr) (cv:=qv) hM hn hd hR H K rfl rfl (λ_ _ _ h=>h)
   (fun β B o h=> .inl h) hl3 (λj hj=>rfl) N (ya1 _)
  exact⟨G',qv,rfl,V,J,Y,M⟩
end
end Go.Ab
end
section
namespace Go.Ab
variable [b3]
structure SR (G:Gh) (w:World) (st:St) (a:Act):Prop where
 memr:aI G w st.mem
 len:st.tmps.length=a.tmps.size
 tmps: ∀(j:Nat) (x:AV),st.tmps[j]?=some x->fB x=true\/VR G w x (a.tmps.getD j undef)
 defers:a.defers= []
structure Ci (G0:Gh) (w0:World) (old:List (Option Bool)) (G:Gh) (w:World):Prop where
 ev:Ev G0 w0 w
 mine:G.mine=G0.mine
 prot: ∀β B o,G0.prot β B o->G.prot β B o
 new: ∀β B o,G.prot β B o->G0.prot β B o\/G0.mine B
 keep: ∀(j:Nat) (k:Bool),old[j]?=some (some k)->∀L,G0.loc j 0=some L->G.loc j 0=some L
theorem Ci.refl(G:Gh)(w:World)(old:List (Option Bool)):Ci G w old G w:=⟨Ev.refl G w,rfl,λ_ _ _ h=>h,λ_ _ _ h=> .inl h,λ_ _ _ _ h=>h⟩
theorem Ci.step{G0:Gh}{w0:World}{old:List (Option Bool)}{G J:Gh}{w M:World}(h:Ci G0 w0 old G w)(I:cJ G J)(H:Ev G w M):Ci G0 w0 old J M where
 ev:=
  ⟨yc2 h.ev.size H.size,H.out.trans h.ev.out,H.os.trans h.ev.os,λB K hm=>(H.away B (yy1 K h.ev.size) (by rw[h.mine];exact hm)).trans (h.ev.away B K hm),
   λB o x=>H.some B o (h.ev.some B o x),fun β B o x=>(H.prot β B o (h.prot _ _ _ x)).trans (h.ev.prot β B o x),λB o x=>(H.fz B o (h.ev.some B o x)).trans (h.ev.fz B o x),H.tape.trans h.ev.tape⟩
 mine:=I.mine.trans h.mine
 prot β B o x:=I.prot _ _ _ (h.prot _ _ _ x)
 new β B o x:=(I.new _ _ _ x).elim (h.new _ _ _) (λy=> .inr (by rw[<-h.mine];exact y))
 keep j k hj L hL:=I.loc _ _ _ (h.keep j k hj L hL)
theorem Mz{tmps:List AV}{t:Nat}{v:AV}(h:Cg tmps t=some v):tmps[t]?=some v/\fB v=false:=by
 unfold Cg at h;rw[a7]at h;rw[bind_some]at h;obtain⟨u,I,h⟩:=h;cases H:fB u with
 |true=>rw[H]at h;simp at h
 |false=>rw[H]at h;simp only[yj]at h;obtain rfl:=ya h;exact⟨I,H⟩
section
variable {P:Program}
theorem SR.get{G:Gh}{w:World}{st:St}{a:Act}(h:SR G w st a){t:Nat}{v:AV}(ht:Cg st.tmps t=some v):VR G w v (a.tmps.getD t undef):=by
 obtain⟨J,I⟩:=Mz ht;rcases h.tmps t v J with H|H
 ·rw[I]at H;cases H
 ·exact H
theorem KS{G:Gh}{w:World}{mem:aK}(hM:aI G w mem){g:Nat}{q:Int×Int}(h:b3.tab g=some q):VR G w (.el true (.agg [.lit (.int .i64 q.1),.lit (.int .i64 q.2)]) 0) (.pointer (some ⟨g,0,none⟩)):=by
 obtain⟨⟨M,K⟩,J,I⟩:=hM.glob g q h;refine .el true _ 0 g 0 (λj=>if j=0 then .int .i64 q.1 else .int .i64 q.2) (λj y H=>?_) (λj y H=>?_)
 ·match j,H with
  |0,H=>exact⟨M,K⟩
  |1,H=>exact⟨J,I⟩
 ·match j,H with
  |0,H=>obtain rfl:=ya H;exact .lit _ rfl
  |1,H=>obtain rfl:=ya H;exact .lit _ rfl
theorem SR.eval{G:Gh}{w:World}{st:St}{a:Act}(h:SR G w st a):MW G w (bW st.tmps) a:=by
 intro x v H;cases x with
 |tmp t=>exact h.get H
 |const c=>exact kD H
 |func f=>
  obtain rfl:=ya H;exact .fn (.func f) [] [] #[] #[] rfl rfl (λj y I=>by simp at I) (λj y I=>by simp at I)
 |global g=>
  simp only[bW]at H;obtain⟨q,J,rfl⟩:=yc.1 H;exact KS h.memr J
theorem HU(a:Act)(dst:Option Tmp)(v:Value):(a.put dst v).defers=a.defers/\(a.put dst v).tmps.size=a.tmps.size:=by
 cases dst<;>simp[Act.put]
theorem SR.put{G J:Gh}{w K:World}{st:St}{a:Act}{dst:Option Tmp}{v:AV}{cv:Value}{mem':aK}(h:SR G w st a)(O:cJ G J)(N:Ev G w K)(U:VR J K v cv)(hM:aI J K mem'):
  SR J K {tmps:=k9 st.tmps dst v,mem:=mem'} (a.put dst cv):=by
 refine⟨hM,?_,λj x H=>?_,by rw[(HU a dst cv).1];exact h.defers⟩
 ·rw[(HU a dst cv).2,<-h.len];cases dst<;>simp[k9,dE]
 ·cases dst with
  |none=>exact(h.tmps j x H).imp id (λh=>h.mono O N)
  |some d=>
   simp only[k9,dE]at H;simp only[Act.put];by_cases M:j=d
   ·subst M;have I:j<st.tmps.length:=by have:=(yd.1 H).1;simpa using this
    rw[yw I]at H;obtain rfl:=ya H;right;rw[yk,Array.getElem?_setIfInBounds_self_of_lt (by rw[<-h.len];exact I)];exact U
   ·rw[yp (λe=>M e.symm)]at H;refine(h.tmps j x H).imp id (λh=>?_);rw[yk,Array.getElem?_setIfInBounds_ne (λe=>M e.symm),<-yk];exact h.mono O N
theorem aI.congr{G:Gh}{w:World}{mem mem':aK}(hM:aI G w mem)(h: ∀(b:Nat) (x:bG),mem'[b]?=some (some x)↔mem[b]?=some (some x)):aI G w mem':=
 ⟨λb x I=>hM.box b x ((h b x).1 I),λb g I=>hM.unset b g (λx H=>I x ((h b x).2 H)),λb x g I=>hM.gens b x g ((h b x).1 I),
  λb J x x' L M B I H=>hM.apart b J x x' L M B ((h b x).1 I) ((h J x').1 H),λb J x x' B i c B' I k K H=>hM.inA b J x x' B i c B' ((h b x).1 I) k K ((h J x').1 H),
  λb J x x' B C i c O N B' I k K H=>hM.inB b J x x' B C i c O N B' ((h b x).1 I) k K ((h J x').1 H),hM.own,hM.lab,hM.away,hM.glob⟩
theorem IZ: ∀{m:aK} {b:Nat} {x:bG},(trim m)[b]?=some (some x)↔m[b]?=some (some x)
 | [],b,x=>by simp[trim]
 |y::m,b,x=>by
  have I:=λb=>IZ (m:=m) (b:=b) (x:=x);simp only[trim];split
  ·rename_i hn;rw[hn]at I;have H: ∀b:Nat,m[b]?≠some (some x):=λb J=>by have:=(I b).2 J;simp at this
   cases y with
   |none=>
    simp only[Lk,yl];cases b with
    |zero=>simp
    |succ b=>simp[H b]
   |some y=>
    simp only[Lk,yj];cases b with
    |zero=>simp
    |succ b=>simp[H b]
  ·rename_i z hz;cases b with
   |zero=>simp
   |succ b=>simp only[yd1];exact I b
theorem Mj{mem:aK}{rs:Nat}:wF mem rs=true↔mem[rs]?=some none:=by
 unfold wF;split
 ·rename_i h;simp[h]
 ·rename_i h;constructor
  ·intro H;cases H
  ·intro H;exact absurd H h
inductive sE (P:Program) (C:bM) (an:kQ) (tk:Bool) (rid:Nat) (ops:Array Oper) (o:Oper) (i rs:Nat) (st:St):St->Option Tr->Prop
 |run (out:cU) (st1:St) (hst:st1.mem=st.mem/\∀t:Nat,st1.tmps[t]?=st.tmps[t]?) (hres:dJ o.op=true->wF st.mem rs=true) (h:Fy P C (bD rid i an.own) tk (bD rid i an.boxed) (bD rid i an.raw) (bD rid i an.vars) o (bW st1.tmps) st1.mem rs=some out)
   (hg: ∀j want,o.guard=some (j,want)->∃d,(ops[j]?).bind (·.dst)=some d/\st.tmps[d]?=some (.lit (.bool want))):
   sE P C an tk rid ops o i rs st {tmps:=k9 st1.tmps o.dst out.v,mem:=out.apply st1.mem} (some (out.tr (dJ o.op) rs i o.op st1.mem))
 |skip (st1:St) (hst:st1.mem=st.mem/\∀t:Nat,st1.tmps[t]?=st.tmps[t]?) (j:Nat) (want:Bool) (d:Nat) (hg:o.guard=some (j,want)) (hd:(ops[j]?).bind (·.dst)=some d)
   (h:st.tmps[d]?=some (.lit (.bool (!want)))\/∃x,st.tmps[d]?=some (.lit (.tuple x))):sE P C an tk rid ops o i rs st {tmps:=k9 st1.tmps o.dst (.lit undef),mem:=st1.mem} none
theorem Nu{tmps:List AV}{d:Nat}{v:AV}(h:tmps[d]?=some v): ∀t:Nat,(tmps.set d v)[t]?=tmps[t]?:=by
 intro t;by_cases e:t=d
 ·subst e;rw[yw (yd.1 h).1,h]
 ·rw[yp (λx=>e x.symm)]
variable {R:Type}
theorem Ih{h:Option Int}{v:AV}{k:AV->Option R}{r:R}(H:wK h v k=some r):k v=some r:=by
 unfold wK at H;split at H
 ·exact H
 ·split at H
  ·rw[aA]at H;rw[decide_eq_true_eq]at H;rw[H.1];exact H.2
  ·rename_i x _ b;cases I:decide (x=0)with
   |true=>
    rw[I]at H;simp only[yl]at H;rw[aA]at H;cases b with
    |false=>exact H.2
    |true=>simp at H
   |false=>
    rw[I]at H;simp only[yj]at H;rw[aA]at H;cases b with
    |true=>exact H.2
    |false=>simp at H
  ·exact H
theorem Gl{C:bM}{an:kQ}{tk:Bool}{rid:Nat}{ops:Array Oper}{o:Oper}{rest:List Oper}{i rs:Nat}{st:St}{tr:List Tr}{k:St->List Tr->Option R}{r:R}
  (h:qI P C an tk rid (ops.toList.map (·.dst)) (o::rest) i rs st tr k=some r):
  ∃J t,sE P C an tk rid ops o i rs st J t/\qI P C an tk rid (ops.toList.map (·.dst)) rest (i+1) (bif dJ o.op then rs+1 else rs) J (t.toList++tr) k=some r:=by
 simp only[qI,a7,dE]at h;have hds: ∀{j:Nat} {d:Nat},(ops.toList.map (·.dst))[j]?=some (some d)->(ops[j]?).bind (·.dst)=some d:=by
  intro j d hj;rw[yc1]at hj;obtain⟨x,hx,hd⟩:=yc.1 hj;rw[yh1]at hx;rw[hx];exact hd
 have N: ∀(I:St),(I.mem=st.mem/\∀t:Nat,I.tmps[t]?=st.tmps[t]?)->(∀j H,o.guard=some (j,H)->∃d,(ops[j]?).bind (·.dst)=some d/\st.tmps[d]?=some (.lit (.bool H)))->
   guardB (bif dJ o.op then wF I.mem rs else true) ((Fy P C (bD rid i an.own) tk (bD rid i an.boxed) (bD rid i an.raw) (bD rid i an.vars) o (bW I.tmps) I.mem rs).bind λout=>
    wK (Aq rid i an.hint) out.v λv=>qI P C an tk rid (ops.toList.map (·.dst)) rest (i+1) (bif dJ o.op then rs+1 else rs) {tmps:=k9 I.tmps o.dst v,mem:=out.apply I.mem} (out.tr (dJ o.op) rs i o.op I.mem::tr) k)=some r->
   ∃J t,sE P C an tk rid ops o i rs st J t/\qI P C an tk rid (ops.toList.map (·.dst)) rest (i+1) (bif dJ o.op then rs+1 else rs) J (t.toList++tr) k=some r:=by
  intro I V O h;rw[aA]at h;obtain⟨hr,h⟩:=h;rw[bind_some]at h;obtain⟨out,hout,h⟩:=h;have h:=Ih h;refine⟨_,_,.run out I V (λhm=>?_) hout O,by simpa using h⟩;rw[hm]at hr;rw[<-V.1];exact hr
 have K: ∀(I:St),(I.mem=st.mem/\∀t:Nat,I.tmps[t]?=st.tmps[t]?)->∀(j:Nat) (H:Bool) (d:Nat),o.guard=some (j,H)->(ops[j]?).bind (·.dst)=some d->(st.tmps[d]?=some (.lit (.bool (!H)))\/∃x,st.tmps[d]?=some (.lit (.tuple x)))->
   qI P C an tk rid (ops.toList.map (·.dst)) rest (i+1) (bif dJ o.op then rs+1 else rs) {tmps:=k9 I.tmps o.dst (.lit undef),mem:=I.mem} tr k=some r->
   ∃J t,sE P C an tk rid ops o i rs st J t/\qI P C an tk rid (ops.toList.map (·.dst)) rest (i+1) (bif dJ o.op then rs+1 else rs) J (t.toList++tr) k=some r:=by
  intro I V j H d O hd hh h;exact⟨_,_,.skip I V j H d O hd hh,by simpa using h⟩
 have M: ∀{d:Nat} {v:AV},st.tmps[d]?=some v->(({st with tmps:=st.tmps.set d v}:St).mem=st.mem/\∀t:Nat,({st with tmps:=st.tmps.set d v}:St).tmps[t]?=st.tmps[t]?):=λh=>⟨rfl,Nu h⟩
 split at h
 ·rename_i O;exact N st ⟨rfl,λ_=>rfl⟩ (λj H h=>by rw[O]at h;cases h) h
 ·rename_i j H O;split at h
  ·rename_i d hd;have U:=hds hd;split at h
   ·rename_i b W;cases b with
    |true=>
     simp only[yl]at h;cases H with
     |true=>simp only[yl,yj]at h;exact N _ (M W) (λj' Y Z=>by rw[O]at Z;obtain⟨rfl,rfl⟩:=Prod.mk.inj (ya Z);exact⟨d,U,W⟩) h
     |false=>simp only[yl,yj]at h;exact K _ (M W) j false d O U (.inl W) h
    |false=>
     simp only[yj]at h;cases H with
     |true=>simp only[yl,yj]at h;exact K _ (M W) j true d O U (.inl W) h
     |false=>simp only[yl,yj]at h;exact N _ (M W) (λj' Y Z=>by rw[O]at Z;obtain⟨rfl,rfl⟩:=Prod.mk.inj (ya Z);exact⟨d,U,W⟩) h
   ·rename_i x hx;exact K st ⟨rfl,λ_=>rfl⟩ j H d O U (.inr ⟨x,hx⟩) h
   ·simp at h
  ·simp at h
theorem SR.same{G:Gh}{w:World}{st H:St}{a:Act}(h:SR G w st a)(I:H.mem=st.mem/\∀t:Nat,H.tmps[t]?=st.tmps[t]?):SR G w H a:=by
 refine⟨by rw[I.1];exact h.memr,?_,λj x M=>h.tmps j x (by rw[<-I.2];exact M),h.defers⟩;rw[<-h.len];rcases Nat.lt_trichotomy H.tmps.length st.tmps.length with J|K|J
 ·have:=I.2 H.tmps.length;rw[yb1 (ya1 _),yf J]at this;cases this
 ·exact K
 ·have:=I.2 st.tmps.length;rw[yb1 (ya1 _),yf J]at this;cases this
theorem SR.lit{G:Gh}{w:World}{st:St}{a:Act}(h:SR G w st a){d:Nat}{v:Value}(J:st.tmps[d]?=some (.lit v)):a.tmps[d]?=some v:=by
 have I:d<a.tmps.size:=by rw[<-h.len];exact(yd.1 J).1
 rcases h.tmps d _ J with H|H
 ·simp[fB]at H
 ·have:=H.lit_inv;rw[yk,yo1 I]at this;rw[yo1 I];simpa using this
theorem sE.sound{C:bM}(hC:iU P C){an:kQ}{tk:Bool}{rid:Nat}{ops:Array Oper}{o:Oper}{i rs:Nat}{st M:St}{t:Option Tr}{G:Gh}{w:World}{a:Act}(hi:ops[i]?=some o)
  (h:sE P C an tk rid ops o i rs st M t) (hS:SR G w st a) (K:Act->World->Prop) (Q:Exit->Act->World->Prop) (hK: ∀Y W a',cJ G Y->Ev G w W->SR Y W M a'->K a' W):wpOp P ops Q i K a w:=by
 unfold wpOp;simp only[hi];cases h with
 |run out st1 J U ho hg=>
  have H:=hS.same J;have hw:Region.wanted o (yielded ops a.tmps)=true:=by
   unfold Region.wanted;cases hgo:o.guard with
   |none=>rfl
   |some q=>
    obtain⟨j,I⟩:=q;obtain⟨d,Z,N⟩:=hg j I hgo;have:=hS.lit N;simp[yielded,Z,this]
  rw[if_pos hw];left;exact L4 H.memr (λhm=>by rw[J.1];exact Mj.1 (U hm)) H.eval (λhc hf ha hcv=>IX hC H.memr hc hf ha hcv) ho K Q
   (λY W cv hv O V hM'=>hK Y W _ O V (H.put O V hv hM'))
 |skip st1 J j I d hg Z h=>
  have H:=hS.same J;have hw:Region.wanted o (yielded ops a.tmps)=false:=by
   unfold Region.wanted;simp only[hg];rcases h with N|⟨x,N⟩
   ·have:=hS.lit N;cases I<;>simp[yielded,Z,this]
   ·have:=hS.lit N;simp[yielded,Z,this]
  rw[hw];simp only[yl2,if_false];exact hK G w _ (cJ.refl G) (Ev.refl G w) (H.put (cJ.refl G) (Ev.refl G w) (.lit _ rfl) H.memr)
theorem CR{C:bM}(hC:iU P C){an:kQ}{tk:Bool}{rid:Nat}{ops:Array Oper}{k:St->List Tr->Option R}{r:R}{Q:Exit->Act->World->Prop}{G0:Gh}{w0:World}{old:List (Option Bool)}:
  ∀{rest:List Oper} {i rs:Nat} {st:St} {tr:List Tr} {G:Gh} {w:World} {a:Act},ops.toList.drop i=rest->qI P C an tk rid (ops.toList.map (·.dst)) rest i rs st tr k=some r->SR G w st a->Ci G0 w0 old G w->
   (∀H J M I V,k H J=some r->SR M I H V->Ci G0 w0 old M I->Q .normal V I)->wpOps P ops Q (List.range' i rest.length) a w
 | [],i,rs,st,tr,G,w,a,U,h,hS,hI,O=>by
  simp only[qI]at h;exact O st tr G w a h hS hI
 |o::rest,i,rs,st,tr,G,w,a,U,h,hS,hI,O=>by
  obtain⟨H,t,N,Y⟩:=Gl h;have Z:ops[i]?=some o:=by
   have:(ops.toList.drop i)[0]?=some o:=by rw[U];rfl
   rw[yz,yk1,yh1]at this;exact this
  rw[ym2,List.range'_succ,wpOps_cons];refine N.sound hC Z hS _ _ (λM I V hg W K=>?_);exact CR hC (by rw[<-List.drop_drop,U];rfl) Y K (hI.step hg W) O
end
end Go.Ab
end
section
namespace Go.Ab
variable [b3]
theorem rV{p:Nat->Prop}(h: ∃n,p n): ∃n,p n/\∀m,p m->n≤m:=by
 obtain⟨n,hn⟩:=h
 induction n using Nat.strongRecOn with
 |_ n J=>
  by_cases hm: ∃m,m<n/\p m
  ·obtain⟨m,H,hm⟩:=hm;exact J m H hm
  ·exact⟨n,hn,λm I=>Nat.le_of_not_lt λH=>hm ⟨m,H,I⟩⟩
section
variable {P:Program}
theorem Hg{c:Code}{Q:Exit->Act->World->Prop}{a:Act}{w:World}(I:Nat->Act->World->Prop){n:Nat}(V:I n a w)
  (H: ∀n a w,I n a w->c.wp P (Exit.then (λN O=> ∃m,m<n/\I m N O) Q) a w):(Code.loop c).wp P Q a w:=by
 refine wp_loop (λa w=> ∃n,I n a w) (λa w=>Classical.epsilon λn=>I n a w/\∀m,I m a w->n≤m) ⟨n,V⟩ λa w hI=>?_;have K:=Classical.epsilon_spec (rV hI);refine wp_mono (H _ a w K.1) λe N O U=>?_;cases e<;>try exact U
 obtain⟨m,M,hm⟩:=U;have J:=Classical.epsilon_spec (rV (p:=λn=>I n N O) ⟨m,hm⟩);exact⟨⟨m,hm⟩,Nat.lt_of_le_of_lt (J.2 m hm) M⟩
def Ex.to:Ex->Exit
 | .normal=> .normal
 | .exit id=> .exit id
 | .ret=> .ret
 | .goto l=> .goto l
theorem qT: ∀{live:List Nat} {vs:List AV} {i j:Nat},(bK live vs i)[j]?=(vs[j]?).map λv=>bif dL (i+j) live then v else .goneV
 |live,[],i,j=>by simp[bK]
 |live,v::r,i,0=>by simp[bK]
 |live,v::r,i,j+1=>by simp only[bK,yd1];rw[qT (vs:=r),show i+1+j=i+(j+1) by omega]
theorem Ff{G0:Gh}{w0:World}{keep:Bool}{old:List (Option Bool)}{live:List Nat}{st J:St}{G:Gh}{w:World}{a:Act}(h:Jq keep old live st=some J)(hS:SR G w st a)(hI:Ci G0 w0 old G w):
  ∃N,SR N w J a/\Ci G0 w0 old N w:=by
 unfold Jq at h;obtain⟨q,hq,rfl⟩:=yc.1 h;obtain⟨f,N,G2,hr,hm,O,M,hM,K,I,hk,_,_⟩:=BH hS.memr hq;refine⟨G2,⟨hM,?_,λj x Y=>?_,hS.defers⟩,⟨hI.ev,hm.trans hI.mine,fun β B o h=>by rw[O];exact hI.prot β B o h,fun β B o h=>hI.new β B o (by rw[O]at h;exact h),λj k Z L hL=>by obtain⟨y,_,_,h⟩:=hk j k Z;exact h L (hI.keep j k Z L hL)⟩⟩
 ·simp only[hr,eI,ye1];rw[<-hS.len];have: ∀(vs:List AV) i,(bK live vs i).length=vs.length:=by
   intro vs;induction vs with
   |nil=>intro i;rfl
   |cons v r ih=>intro i;simp[bK,ih]
  exact this _ _
 ·simp only[hr]at Y;obtain⟨y,W,rfl⟩:=oS Y;have H:=I j y;rw[qT]at W H;obtain⟨z,V,rfl⟩:=yc.1 W;rw[V]at H;cases U:dL (0+j) live with
  |false=>left;rfl
  |true=>
   simp only[yl];rcases hS.tmps j z V with h|h
   ·left;unfold fB at h;split at h
    ·rfl
    ·cases h
   ·right;rw[U]at H;exact(H _ rfl h).ren (l:=true) K (fun β B o _ hb=>by rw[O,<-M];exact hb) (λ_=>rfl)
theorem Hf{G:Gh}{w:World}{mem mem':aK}{s:AV}{n c:Nat}(hM:aI G w mem)(h:Ft mem s n c=some mem'): ∃J,cJ G J/\aI J w mem':=by
 unfold Ft at h;split at h
 ·rename_i b g;rw[bind_some]at h;obtain⟨M,H,h⟩:=h;split at h
  ·rename_i e xs hs I;obtain⟨r,hr,rfl⟩:=yc.1 h;have K:mem[b]?=some (some M):=by
    unfold boxO? at H;split at H
    ·rename_i x K;cases N:Nat.beq x.gen g&&x.row.isOwn with
     |true=>rw[N]at H;obtain rfl:=ya H;exact K
     |false=>rw[N]at H;cases H
    ·cases H
   have O:0<M.row.len:=by
    rw[I];unfold mJ at hr;rw[bind_some]at hr;obtain⟨p,V,_⟩:=hr;have:=(yd.1 V).1;show 0<xs.length;omega
   obtain⟨o,a0,W,U,hm⟩:=(hM.box b M K).loc;cases o with
   |none=>have:=hm.1;omega
   |some B=>
    obtain⟨J,v,_,_,ht,_⟩:=rJ hM K I ⟨_,W,rfl⟩ hr;exact⟨J,ht.gle,ht.memr⟩
  ·cases h
 ·cases h
theorem GA{G:Gh}{w:World}{mem mem':aK}{off:Nat}{p:AV}(hM:aI G w mem)(h:AI mem off p=some mem'): ∃G',cJ G G'/\aI G' w mem':=by
 unfold AI at h;split at h
 ·rename_i b g i c;rw[bind_some]at h;obtain⟨x,hbx,h⟩:=h;obtain⟨V,hge⟩:=box?_some hbx;split at h
  ·rename_i e cs H;split at h
   ·rename_i W U hc;obtain⟨y,hy,rfl⟩:=yc.1 h;have hb:=hM.box b x V;obtain⟨o,a0,N,K,hm⟩:=hb.loc;refine⟨_,cJ.put (b:=b) (g:=x.gen) (.inr N),hM.upd (x':={gen:=x.gen,frz:=x.frz,row:= .cells e (cs.set (i*e+c+off) (.ms W U 0 y.row.len))}) (Ev.refl G w) (yd.1 V).1 (.inr N)
     (FR.plain rfl (λ_ _=>rfl) λB hB hO=>hM.other_ne V ⟨_,N,hB⟩ hO rfl) (λg' Z=>hM.gens b x g' V Z) ?_⟩
    rw[H]at N hm K;refine⟨by have:=hb.e;rw[H]at this;exact this,o,a0,by rw[Gh.put_self,H];simp only[aX.e,aX.len,yz2],K,?_⟩;cases o with
    |none=>exact absurd hm.2 (by simp[aX.isCells])
    |some B=>
     obtain⟨m1,m2,m3,m4,m5⟩:=hm;refine⟨m1,m2,m3,⟨by rw[yz2];exact m4.1,λj z J=>?_⟩,m5⟩;have M:cJ G (G.put b x.gen ⟨some B,x.row.e,x.row.len,a0⟩):=cJ.put (.inr (by rw[H];exact N));have hzz:(i*e+c+off=j/\z= .ms W U 0 y.row.len)\/cs[j]?=some z:=by
      by_cases ej:i*e+c+off=j
      ·subst ej;rw[yw (yd.1 hc).1]at J;exact .inl ⟨rfl,(ya J).symm⟩
      ·rw[yp ej]at J;exact .inr J
     rcases hzz with ⟨rfl,rfl⟩|J
     ·obtain⟨v,hv,Y,hr⟩:=m4.2 _ _ hc;refine⟨v,hv,Y,VR.mono M (Ev.refl G w) ?_⟩;rcases hM.at_msw hy hr with ⟨B',a',cap,rfl,O,I,ha',hf,_⟩|⟨rfl,hn,_,a',I⟩
      ·have:=VR.ms (G:=G) (w:=w) W U 0 y.row.len cap _ B' I rfl O (by simp) (by simpa using hf);simpa using this
      ·rw[hn];exact .msNil W U _ I rfl
     ·obtain⟨v,hv,Y,hr⟩:=m4.2 _ _ J;exact⟨v,hv,Y,VR.mono M (Ev.refl G w) hr⟩
   ·obtain rfl:=ya h;exact⟨G,cJ.refl G,hM⟩
  ·cases h
 ·cases h
theorem z7{w:World}{tmps:List AV}: ∀{l:List (Operand×Nat×Operand×Nat)} {G:Gh} {mem mem':aK},aI G w mem->Bh tmps l mem=some mem'->∃U,cJ G U/\aI U w mem'
 | [],G,mem,mem',hM,h=>by obtain rfl:=ya h;exact⟨G,cJ.refl G,hM⟩
 |q::l,G,mem,mem',hM,h=>by
  simp only[Bh]at h;rw[bind_some]at h;obtain⟨I,H,h⟩:=h;have: ∃K,cJ G K/\aI K w I:=by
   unfold IP at H;rw[bind_some]at H;obtain⟨p,_,H⟩:=H;cases V:Nat.beq q.2.2.2 999 with
   |true=>rw[V]at H;exact GA hM H
   |false=>
    rw[V,yj]at H;rw[bind_some]at H;obtain⟨s,_,H⟩:=H;rw[bind_some]at H;obtain⟨v,_,H⟩:=H;split at H
    ·rw[aA]at H;exact Hf hM H.2
    ·cases H
  obtain⟨K,O,M⟩:=this;obtain⟨W,N,J⟩:=z7 M h;exact⟨W,O.trans N,J⟩
theorem wY{G0:Gh}{w0:World}{old:List (Option Bool)}{an:kQ}{rid:Nat}{st K:St}{G:Gh}{w:World}{a:Act}(h:wI an rid old st=some K)(hS:SR G w st a)(hI:Ci G0 w0 old G w):
  ∃I,SR I w K a/\Ci G0 w0 old I w:=by
 unfold wI at h;split at h
 ·obtain rfl:=ya h;exact⟨G,hS,hI⟩
 ·rename_i q hq;rw[bind_some]at h;obtain⟨Z,M,h⟩:=h;obtain⟨W,V,rfl⟩:=yc.1 h;obtain⟨I,hG⟩:=BO hS.memr M;obtain⟨G2,J,N⟩:=z7 hG.memr V;have U:Ci G0 w0 old I w:=⟨hI.ev,hG.mine.trans hI.mine,fun β B o h=>by rw[hG.prot];exact hI.prot β B o h,fun β B o h=>hI.new β B o (by rw[hG.prot]at h;exact h),λj k hj L hL=>by
   rw[hG.loc j 0 (yd.1 hj).1];exact hI.keep j k hj L hL⟩
  refine⟨G2,⟨N,?_,λj x hx=>?_,hS.defers⟩,U.step J (Ev.refl I w)⟩
  ·have: ∀(vs:List AV) i,(bK q.1 vs i).length=vs.length:=by
    intro vs;induction vs with
    |nil=>intro i;rfl
    |cons v r ih=>intro i;simp[bK,ih]
   rw[<-hS.len];exact this _ _
  ·have H:=hG.vals j x;rw[qT]at hx H;obtain⟨z,Y,rfl⟩:=yc.1 hx;rw[Y]at H;cases O:dL (0+j) q.1 with
   |false=>left;rfl
   |true=>
    simp only[yl];rcases hS.tmps j z Y with h|h
    ·exact .inl h
    ·rw[O]at H;exact .inr ((H _ rfl h).mono J (Ev.refl I w))
variable {R:Type}
def Cz(P:Program)(C:bM)(an:kQ):Prop:= ∀(R:Type) (rid:Nat) (ops:Array Oper) (st:St) (k:St->Option R) (r:R) (G0:Gh) (w0:World) (old:List (Option Bool)) (G:Gh) (w:World) (a:Act) (Q:Exit->Act->World->Prop),
 gQ P C an rid ops true st k=some r->SR G w st a->Ci G0 w0 old G w->(∀st' G' w' a',k st'=some r->SR G' w' st' a'->Ci G0 w0 old G' w'->Q .normal a' w')->(Code.region rid ops true).wp P Q a w
theorem Cl{m:aK}{n b:Nat}{x:bG}:(m++List.replicate n none)[b]?=some (some x)↔m[b]?=some (some x):=by
 by_cases H:b<m.length
 ·rw[yn H]
 ·rw[yu (by omega),ya2];constructor
  ·intro h;split at h<;>simp at h
  ·intro h;rw[yb1 (by omega)]at h;cases h
theorem SR.widen{G:Gh}{w:World}{st:St}{a:Act}(h:SR G w st a)(n:Nat):SR G w {st with mem:=st.mem++List.replicate n none} a:=
 ⟨h.memr.congr λb x=>Cl,h.len,h.tmps,h.defers⟩
theorem SR.trim{G:Gh}{w:World}{st:St}{a:Act}(h:SR G w st a):SR G w {st with mem:=trim st.mem} a:=
 ⟨h.memr.congr λb x=>IZ,h.len,h.tmps,h.defers⟩
theorem pZ{C:bM}(hC:iU P C){an:kQ}(hD:Cz P C an){rid:Nat}{ops:Array Oper}{H:Bool}{st:St}{k:St->Option R}{r:R}{G0:Gh}{w0:World}{old:List (Option Bool)}{G:Gh}{w:World}{a:Act}
  {Q:Exit->Act->World->Prop} (h:gQ P C an rid ops H st k=some r) (hS:SR G w st a) (hI:Ci G0 w0 old G w) (V: ∀I M K N,k I=some r->SR M K I N->Ci G0 w0 old M K->Q .normal N K):
  (Code.region rid ops H).wp P Q a w:=by
 cases H with
 |true=>exact hD R rid ops st k r G0 w0 old G w a Q h hS hI V
 |false=>
  unfold gQ at h;apply wp_region;have:=CR (Q:=Q) (G0:=G0) (w0:=w0) (old:=old) hC (ops:=ops) (rest:=ops.toList) (i:=0) (by simp) h (hS.widen _) hI (λI W M K N J O U=>by
   rw[aA]at J;exact V _ M K N J.2 O.trim U)
  rw[List.range_eq_range'];simpa using this
theorem Jd{α:Type}{a b:Option α}{r:α}(h:amb a b=some r):a=some r/\b=some r:=by
 unfold amb at h;split at h
 ·rename_i e;exact⟨h,e ▸ h⟩
 ·cases h
theorem VR.unk_inv{G:Gh}{w:World}{v:Value}(h:VR G w (.imm true (.lit (.bool false))) v): ∃b,v= .bool b:=by
 cases h with
 |imm _ _ _ _ hs=>cases hs
 |unkB b=>exact⟨b,rfl⟩
theorem Ie{C:bM}(hC:iU P C){an:kQ}(hD:Cz P C an){n:Nat}{old:List (Option Bool)}{G0:Gh}{w0:World}: ∀(c:Code) {W:Nat} {st:St} {k:Ex->St->Option R} {r:R} {G:Gh} {w:World} {a:Act} {Q:Exit->Act->World->Prop},
  b7 P C an n old c W st k=some r->SR G w st a->Ci G0 w0 old G w->(∀e J G' V Z,k e J=some r->SR G' V J Z->Ci G0 w0 old G' V->Q e.to Z V)->c.wp P Q a w:=by
 suffices H: ∀(N:Nat) (c:Code),SizeOf.sizeOf c<N->∀{W:Nat} {st:St} {k:Ex->St->Option R} {r:R} {G:Gh} {w:World} {a:Act} {Q:Exit->Act->World->Prop},
  b7 P C an n old c W st k=some r->SR G w st a->Ci G0 w0 old G w->(∀e J G' V Z,k e J=some r->SR G' V J Z->Ci G0 w0 old G' V->Q e.to Z V)->c.wp P Q a w from λc=>H _ c (yj2 _)
 intro N
 induction N with
 |zero=>intro c hN;exact absurd hN (Nat.not_lt_zero _)
 |succ N IH=>
 intro c hN;cases c with
 |skip=>intro W st k r G w a Q h hS hI Y;exact wp_skip (Y .normal st G w a h hS hI)
 |ret=>intro W st k r G w a Q h hS hI Y;exact wp_ret (Y .ret st G w a h hS hI)
 |exit id=>intro W st k r G w a Q h hS hI Y;exact wp_exit (Y (.exit id) st G w a h hS hI)
 |seq x y=>
  have ihx:= @IH x (by simp at hN;omega);have ihy:= @IH y (by simp at hN;omega);intro W st k r G w a Q h hS hI Y;simp only[b7]at h;refine wp_seq (ihx h hS hI λe J G' V Z U K O=>?_);cases e with
  |normal=>exact ihy U K O Y
  |exit id=>exact Y (.exit id) J G' V Z U K O
  |ret=>exact Y .ret J G' V Z U K O
  |goto l=>exact Y (.goto l) J G' V Z U K O
 |cond c x y=>
  have ihx:= @IH x (by simp at hN;omega);have ihy:= @IH y (by simp at hN;omega);intro W st k r G w a Q h hS hI Y;simp only[b7]at h;split at h
  ·rename_i t ht;have hc:=(hS.eval c _ ht).lit_inv;cases t with
   |true=>exact wp_cond_true hc (ihx h hS hI Y)
   |false=>exact wp_cond_false hc (ihy h hS hI Y)
  ·rename_i ht;obtain⟨b,hc⟩:=(hS.eval c _ ht).unk_inv;obtain⟨h1,h2⟩:=Jd h;cases b with
   |true=>exact wp_cond_true hc (ihx h1 hS hI Y)
   |false=>exact wp_cond_false hc (ihy h2 hS hI Y)
  ·simp at h
 |block id c=>
  have ih:= @IH c (by simp at hN;omega);intro W st k r G w a Q h hS hI Y;simp only[b7]at h;refine wp_block (ih h hS hI λe J G' V Z U K O=>?_);cases e with
  |normal=>exact Y .normal J G' V Z U K O
  |ret=>exact Y .ret J G' V Z U K O
  |goto l=>exact Y (.goto l) J G' V Z U K O
  |exit j=>
   simp only at U;cases hj:Nat.beq j id with
   |true=>
    rw[hj]at U;simp only[yl]at U;obtain rfl:=bI.1 hj;simp only[Ex.to,Exit.inBlock,if_true];exact Y .normal J G' V Z U K O
   |false=>
    rw[hj]at U;simp only[yj]at U;have hne: ¬j=id:=λh=>by rw[bI.2 h]at hj;cases hj
    simp only[Ex.to,Exit.inBlock,hne,if_false];exact Y (.exit j) J G' V Z U K O
 |loop c=>
  have ih:= @IH c (by simp at hN;omega);intro W st k r G w a Q h hS hI Y;simp only[b7]at h;rw[bind_some]at h;obtain⟨live,hl,h⟩:=h;refine Hg (λm a w=> ∃st G,iP (dL W an.keep) old live (λst k=>b7 P C an n old c W st k) m st k=some r/\SR G w st a/\Ci G0 w0 old G w) ⟨st,G,h,hS,hI⟩ ?_
  rintro m a w ⟨st,G,h,hS,hI⟩
  cases m with
  |zero=>simp[iP]at h
  |succ m=>
   simp only[iP]at h;rw[bind_some]at h;obtain⟨st1,h1,h⟩:=h;obtain⟨G1,hS1,hI1⟩:=Ff h1 hS hI;refine ih h hS1 hI1 λe J G' V Z U K O=>?_;cases e with
   |normal=>exact⟨m,yj2 _,J,G',U,K,O⟩
   |exit id=>exact Y (.exit id) J G' V Z U K O
   |ret=>exact Y .ret J G' V Z U K O
   |goto l=>exact Y (.goto l) J G' V Z U K O
 |region rid ops draw=>
  intro W st k r G w a Q h hS hI Y;simp only[b7]at h;rw[bind_some]at h;obtain⟨st1,h1,h⟩:=h;obtain⟨G1,hS1,hI1⟩:=wY h1 hS hI;exact pZ hC hD h hS1 hI1 (λJ G' V Z U K O=>Y .normal J G' V Z U K O)
 |goto l=>intro W st k r G w a Q h hS hI Y;exact wp_goto (Y (.goto l) st G w a h hS hI)
 |scope c=>
  intro W st k r G w a Q h hS hI Y;cases c with
  |seq x y=>cases x with
   |region r1 o1 d1=>cases y with
    |seq x2 y2=>cases x2 with
     |region r2 o2 d2=>cases y2 with
      |seq x3 b=>cases x3 with
       |label l=>
        simp only[b7]at h;have hsz:SizeOf.sizeOf b<N:=by simp at hN;omega
        have ih:= @IH b hsz;rw[bind_some]at h;obtain⟨st1,h1,h⟩:=h;obtain⟨G1,hS1,hI1⟩:=wY h1 hS hI;obtain⟨I,hIdef⟩: ∃I:Nat->Act->World->Prop,I=λm a w=> ∃st G live,cP (bO l) an.live=some live/\iP (dL (bO l) an.keep) old live (λst k=>b7 P C an n old b (bO l) st (HV l k)) m st k=some r/\SR G w st a/\Ci G0 w0 old G w:=⟨_,rfl⟩
        have go: ∀(a:Act) (w:World),(∃m,I m a w)->b.wp P (Exit.jump l (λZ V=>(∃m,I m Z V)/\(Classical.epsilon λm=>I m Z V/\∀j,I j Z V->m≤j)<(Classical.epsilon λm=>I m a w/\∀j,I j a w->m≤j)) Q) a w:=by
         intro a w hJ;have hmin:=Classical.epsilon_spec (rV hJ);generalize (Classical.epsilon λm=>I m a w/\∀j,I j a w->m≤j)=M at hmin⊢
         obtain⟨hM,hle⟩:=hmin;rw[hIdef]at hM;obtain⟨st,G,live,hl,hit,hS,hI⟩:=hM;cases M with
         |zero=>simp[iP]at hit
         |succ M=>
          simp only[iP]at hit;rw[bind_some]at hit;obtain⟨st1,h1,hit⟩:=hit;obtain⟨G1,hS1,hI1⟩:=Ff h1 hS hI;refine ih hit hS1 hI1 λe J G' V Z U K O=>?_;cases e with
          |normal=>simp[HV]at U
          |exit id=>exact Y (.exit id) J G' V Z U K O
          |ret=>exact Y .ret J G' V Z U K O
          |goto l'=>
           simp only[HV]at U;cases hb:Nat.beq l' l with
           |false=>rw[hb]at U;simp at U
           |true=>
            rw[hb]at U;simp only[yl]at U;have hI2:I M Z V:=by rw[hIdef];exact⟨J,G',live,hl,U,K,O⟩
            have hmin':=Classical.epsilon_spec (rV (p:=λm=>I m Z V) ⟨M,hI2⟩);exact⟨bI.1 hb,⟨M,hI2⟩,Nat.lt_of_le_of_lt (hmin'.2 M hI2) (yj2 _)⟩
        refine wp_scope_jumps (rest:= .seq .skip b) l (λa w=> ∃m,I m a w) (λa w=>Classical.epsilon λm=>I m a w/\∀j,I j a w->m≤j) (by simp[findLabel]) ?_ (λa w hJ=>wp_seq (wp_skip (go a w hJ)));refine wp_seq (pZ hC hD h hS1 hI1 λJ G' V Z U K O=>?_);rw[bind_some]at U;obtain⟨st2,h2,U⟩:=U;obtain⟨G2,hS2,hI2⟩:=wY h2 K O;refine wp_seq (pZ hC hD U hS2 hI2 λst3 G3 w3 a3 U hS3 hI3=>?_);rw[bind_some]at U;obtain⟨live,hl,U⟩:=U;have hJ: ∃m,I m a3 w3:=⟨n,by rw[hIdef];exact⟨st3,G3,live,hl,U,hS3,hI3⟩⟩
        refine wp_seq (wp_label ?_);refine wp_mono (go a3 w3 hJ) λe Z V U=>?_;cases e with
        |goto l'=>exact⟨U.1,U.2.1⟩
        |_=>exact U
       |_=>simp[b7]at h
      |_=>simp[b7]at h
     |_=>simp[b7]at h
    |_=>simp[b7]at h
   |_=>simp[b7]at h
  |_=>simp[b7]at h
 |_=>intro W st k r G w a Q h hS hI Y;simp[b7]at h
def NJ(tmps:Array Value):ResultVar->Sem Value
 | .tmp t=>pure (tmps.getD t undef)
 | .cell c t=>do loadVar t (<-asAddr (tmps.getD c undef))
theorem JK(fn:Func)(tmps:Array Value):results fn tmps=(do let vs<-fn.results.mapM (NJ tmps);pure (if h:vs.size=1 then vs[0]else .tuple vs)):=by
 unfold results;congr 1
theorem wW{G:Gh}{w:World}{st:St}{a:Act}(hS:SR G w st a): ∀{rs:List ResultVar} {vs:List AV},Cf P st.tmps st.mem rs=some vs->
  ∃us:List Value,gH G w vs us/\(rs.mapM (NJ a.tmps)).run P w= .ok us w
 | [],vs,h=>by
  simp[Cf]at h;subst h;exact⟨[],⟨rfl,λj y J=>by simp at J⟩,by simp⟩
 | .tmp t::rs,vs,h=>by
  simp only[Cf]at h;rw[bind_some]at h;obtain⟨v,Y,h⟩:=h;obtain⟨O,N,rfl⟩:=yc.1 h;obtain⟨us,hL,H⟩:=wW hS N;refine⟨a.tmps.getD t undef::us,⟨by simp[hL.1],λj y J=>?_⟩,?_⟩
  ·cases j with
   |zero=>simp at J;subst J;exact hS.get Y
   |succ j=>simpa using hL.2 j y (by simpa using J)
  ·rw[List.mapM_cons];simp only[NJ,Sem.run_bind,Sem.run_pure,Result.andThen_ok,H]
 | .cell c t::rs,vs,h=>by
  simp only[Cf]at h;rw[bind_some]at h;obtain⟨x,W,h⟩:=h;rw[bind_some]at h;obtain⟨o,M,h⟩:=h;obtain⟨O,N,rfl⟩:=yc.1 h;obtain⟨us,hL,H⟩:=wW hS N;have I:=hS.get W;obtain⟨v,rd,rfl,cv,K,V⟩:=B7 hS.memr M I;refine⟨cv::us,⟨by simp[hL.1],λj y J=>?_⟩,?_⟩
  ·cases j with
   |zero=>simp at J;subst J;exact V
   |succ j=>simpa using hL.2 j y (by simpa using J)
  ·rw[List.mapM_cons];have:(NJ a.tmps (.cell c t)).run P w= .ok cv w:=by
    have U: ∃p,a.tmps.getD c undef= .pointer (some p):=by
     unfold iA at M;split at M
     ·generalize a.tmps.getD c undef=z at I;cases I;exact⟨_,rfl⟩
     ·generalize a.tmps.getD c undef=z at I;cases I;exact⟨_,rfl⟩
     ·simp at M
    obtain⟨p,U⟩:=U;show Sem.run P (do loadVar t (<-asAddr (a.tmps.getD c undef))) w=_;rw[U]at K⊢
    simpa[Instr.loadAt,Instr.sureAddr,asAddr]using K
   simp only[Sem.run_bind,this,Result.andThen_ok,H,Sem.run_pure]
def mQ(P:Program):Bool:=P.funcs.all fun fn=>!(fn.name== "runtime.NumGoroutine")
theorem zU{f:FuncId}{fn:Func}{H:Array Value}{w:World}(I:P.funcs[f]?=some fn)(hn:mQ P=true)(hb:fn.body.isSome=true):(callFunc f H).run P w= .ok (.enter f H) w:=by
 have K:(fn.name== "runtime.NumGoroutine")=false:=by
  unfold mQ at hn;rw[Array.all_eq_true_iff_forall_mem]at hn;have:=hn fn (Array.mem_of_getElem? I);simpa using this
 have J:fn.body.isNone=false:=by cases h:fn.body<;>simp_all
 unfold callFunc;simp only[Sem.run_bind,run_program,Result.andThen_ok,I,K,J,yl2,if_false,Sem.run_pure]
end
end Go.Ab
end
section
namespace Go.Ab
variable [b3]
def Ag(S:List Nat)(mem mem':aK):Prop:= ∀b∈S,mem'[b]?=mem[b]?
theorem Ag.sub{S S':List Nat}{mem mem':aK}(h:Ag S mem mem')(hs: ∀b∈S',b∈S):Ag S' mem mem':=λb H=>h b (hs b H)
theorem box?_ag{mem mem':aK}{b g:Nat}(h:mem'[b]?=mem[b]?):box? mem' b g=box? mem b g:=by unfold box?;rw[h]
theorem E1{mem mem':aK}{b:Nat}(h:mem'[b]?=mem[b]?):mR mem' b=mR mem b:=by unfold mR;rw[h]
theorem wN{α β:Type}{f I:α->Option (Bool×β×List Nat)}: ∀{xs:List α} {r:Bool×List β×List Nat},fG f xs=some r->(∀x q,f x=some q->(∀b∈q.2.2,b∈r.2.2)->I x=some q)->fG I xs=some r
 | [],r,h,_=>h
 |v::xs,r,h,J=>by
  simp only[fG]at h⊢
  rw[bind_some]at h;obtain⟨a,K,h⟩:=h;rw[bind_some]at h;obtain⟨q,O,h⟩:=h;obtain rfl:=ya h;rw[J v a K (λb H=>yq1 _ H),wN O (λx U N M=>J x U N (λb H=>yr1 _ (M b H)))];rfl
theorem Bl{α β γ:Type}{f J:γ->α->Option (Bool×β×List Nat)}: ∀{ls:List γ} {xs:List α} {r:Bool×List β×List Nat},bY f ls xs=some r->(∀l x q,f l x=some q->(∀b∈q.2.2,b∈r.2.2)->J l x=some q)->bY J ls xs=some r
 | [],[],r,h,_=>h
 | [],v::xs,r,h,H=>by simp[bY]at h
 |l::ls,[],r,h,H=>by simp[bY]at h
 |l::ls,v::xs,r,h,H=>by
  simp only[bY]at h⊢
  rw[bind_some]at h;obtain⟨a,N,h⟩:=h;rw[bind_some]at h;obtain⟨q,O,h⟩:=h;obtain rfl:=ya h;rw[H l v a N (λb I=>yq1 _ I),Bl O (λl x U K M=>H l x U K (λb I=>yr1 _ (M b I)))];rfl
section
variable {P:Program}
theorem kZ{k:IntKind}{b:Nat}{w:aL}{r:Bool×PV×List Nat}(h:bA.treeInts k b w=some r):b∈r.2.2:=by
 unfold bA.treeInts at h;split at h
 ·rw[aA]at h;obtain⟨_,h⟩:=h;obtain rfl:=ya h;simp
 ·rw[aA]at h;obtain⟨_,h⟩:=h;obtain⟨xs,_,rfl⟩:=yc.1 h;simp
 ·simp at h
theorem o8{f:LK->AV->Option (Bool×PV×List Nat)}{t:TypeId}{e b:Nat}{w:aL}{r:Bool×PV×List Nat}(h:bA.treeSl P f t e b w=some r):b∈r.2.2:=by
 unfold bA.treeSl at h;split at h
 ·rw[aA]at h;obtain⟨_,h⟩:=h;obtain rfl:=ya h;simp
 ·rw[aA]at h;obtain⟨_,h⟩:=h;rw[bind_some]at h;obtain⟨_,_,h⟩:=h;obtain⟨xs,_,rfl⟩:=yc.1 h;simp
 ·simp at h
theorem Gu{f K:LK->AV->Option (Bool×PV×List Nat)}{t:TypeId}{e b:Nat}{w:aL}{r:Bool×PV×List Nat}(h:bA.treeSl P f t e b w=some r)
  (Y: ∀l v q,f l v=some q->(∀b∈q.2.2,b∈r.2.2)->K l v=some q):bA.treeSl P K t e b w=some r:=by
 unfold bA.treeSl at h⊢
 split at h
 ·exact h
 ·rw[aA]at h⊢;obtain⟨V,h⟩:=h;refine⟨V,?_⟩;rw[bind_some]at h⊢;obtain⟨ls,J,h⟩:=h;refine⟨ls,J,?_⟩;obtain⟨q,Z,rfl⟩:=yc.1 h;refine yc.2 ⟨q,wN Z (λvs q1 H U=>?_),rfl⟩;rw[bind_some]at H⊢;obtain⟨W,I,H⟩:=H;obtain⟨p,hp,rfl⟩:=yc.1 H;refine⟨W,Bl I (λl x q' O N=>Y l x q' O (λb M=>yg _ (U b (N b M)))),H⟩
 ·simp at h
theorem Gy{mem mem':aK}: ∀{n:Nat} {l:LK} {v:AV} {r:Bool×PV×List Nat},bA P mem n l v=some r->Ag r.2.2 mem mem'->bA P mem' n l v=some r
 |0,l,v,r,h,_=>by simp[bA]at h
 |n+1,l,v,r,h,hA=>by
  unfold bA at h⊢
  split at h<;>try exact h
  ·rename_i k b g;rw[bind_some]at h⊢;obtain⟨x,H,h⟩:=h;exact⟨x,by rw[box?_ag (hA b (kZ h))];exact H,h⟩
  ·rename_i k b g o m;rw[bind_some]at h⊢;obtain⟨x,H,h⟩:=h;have K:=h;rw[bind_some]at h;obtain⟨w,J,h⟩:=h;exact⟨x,by rw[box?_ag (hA b (kZ h))];exact H,K⟩
  ·rename_i t e b g;rw[bind_some]at h⊢;obtain⟨x,H,h⟩:=h;exact⟨x,by rw[box?_ag (hA b (o8 h))];exact H,Gu h (λl v q I hs=>Gy I (hA.sub hs))⟩
  ·rename_i t e b g o m;rw[bind_some]at h⊢;obtain⟨x,H,h⟩:=h;rw[bind_some]at h;obtain⟨w,J,h⟩:=h;refine⟨x,by rw[box?_ag (hA b (o8 h))];exact H,?_⟩;rw[bind_some];exact⟨w,J,Gu h (λl v q I hs=>Gy I (hA.sub hs))⟩
variable {mem mem':aK}
theorem boxO?_ag{b g:Nat}(h:mem'[b]?=mem[b]?):boxO? mem' b g=boxO? mem b g:=by unfold boxO?;rw[h]
theorem Aa{b:Nat}(h:mem'[b]?=mem[b]?):sA mem' b=sA mem b:=by unfold sA;rw[h]
theorem NN{n b g:Nat}{l:LK}{r:Bool×PV×List Nat}(h:bA P mem n l (.msw b g)=some r):b∈r.2.2:=by
 cases n with
 |zero=>simp[bA]at h
 |succ n=>
  unfold bA at h;cases l<;>simp only at h<;>first
   |(cases h;done)
   |(rw[bind_some]at h;obtain⟨x,_,h⟩:=h;exact kZ h)
   |(rw[bind_some]at h;obtain⟨x,_,h⟩:=h;exact o8 h)
theorem N6{n b g o m:Nat}{l:LK}{r:Bool×PV×List Nat}(h:bA P mem n l (.ms b g o m)=some r):b∈r.2.2:=by
 cases n with
 |zero=>simp[bA]at h
 |succ n=>
  unfold bA at h;cases l<;>simp only at h<;>first
   |(cases h;done)
   |(rw[bind_some]at h;obtain⟨x,_,h⟩:=h;rw[bind_some]at h;obtain⟨_,_,h⟩:=h;exact kZ h)
   |(rw[bind_some]at h;obtain⟨x,_,h⟩:=h;rw[bind_some]at h;obtain⟨_,_,h⟩:=h;exact o8 h)
theorem Fi{l:LK}{v:AV}{r:Bool×PV×List Nat}(h:iI P mem l v=some r)(hA:Ag r.2.2 mem mem'):iI P mem' l v=some r:=by
 have I: ∀b g,(v= .msw b g\/∃n,v= .ms b g 0 n)->b∈r.2.2:=by
  intro b g J;unfold iI at h;split at h
  ·rename_i q K;split at h
   ·rw[aA]at h;obtain⟨_,h⟩:=h;obtain rfl:=ya h;obtain⟨g',x,xs,H,_⟩:=Ee K;rcases J with rfl|⟨n,rfl⟩<;>rcases H with ⟨H,_⟩|⟨n',H,_⟩<;>cases H<;>simp
   ·cases h
  ·rcases J with rfl|⟨n,rfl⟩
   ·exact NN h
   ·exact N6 h
 have hO:nA mem' v=nA mem v:=by
  unfold nA;split
  ·rename_i b g;simp only[boxO?_ag (hA b (I b g (.inl rfl)))]
  ·rename_i b g n;simp only[boxO?_ag (hA b (I b g (.inr ⟨n,rfl⟩)))]
  ·rfl
 unfold iI at h⊢
 rw[hO];split at h
 ·exact h
 ·exact Gy h hA
theorem Cv{t:TypeId}{v:AV}{r:Bool×PV×List Nat}(h:qH P mem t v=some r)(hA:Ag r.2.2 mem mem'):qH P mem' t v=some r:=by
 unfold qH at h⊢
 rw[bind_some]at h⊢;obtain⟨ls,H,h⟩:=h;refine⟨ls,H,?_⟩;rw[bind_some]at h⊢;obtain⟨q,M,h⟩:=h;refine⟨q,Bl M (λl x q' I K=>Fi I (hA.sub λb J=>?_)),h⟩;obtain⟨p,_,rfl⟩:=yc.1 h;exact K b J
theorem ME{vars:Bool}{t:TypeId}{vs:List AV}{r:aL×List Nat}(h:mE P vars mem t vs=some r)(hA:Ag r.2 mem mem'):mE P vars mem' t vs=some r:=by
 unfold mE at h⊢
 split at h
 ·exact h
 ·rw[bind_some]at h⊢;obtain⟨e,I,h⟩:=h;refine⟨e,I,?_⟩;cases vars with
  |true=>exact h
  |false=>
   simp only[yj]at h⊢
   obtain⟨q,K,rfl⟩:=yc.1 h;exact yc.2 ⟨q,wN K (λv q' J H=>Cv J (hA.sub H)),rfl⟩
theorem sF: ∀{ids:List Nat},Ag ids mem mem'->bV mem' ids=bV mem ids
 | [],_=>rfl
 |b::r,h=>by
  have H:=sF (ids:=r) (h.sub λb I=>yg _ I);simp only[bV,h b (ym ..),H]
theorem Ak{I:TypeId}{y:AV}{v:aL×List Nat}(h:view P I mem y=some v)(hA:Ag v.2 mem mem'):view P I mem' y=some v:=by
 unfold view at h⊢
 split at h<;>try exact h
 ·rename_i b g o n;have h':=h;rw[bind_some]at h⊢;obtain⟨x,H,h⟩:=h;obtain⟨w,hw,rfl⟩:=yc.1 h;exact⟨x,by rw[box?_ag (hA b (by simp))];exact H,h⟩
 ·rename_i b g;rw[bind_some]at h⊢;obtain⟨x,H,h⟩:=h;obtain rfl:=ya h;exact⟨x,by rw[box?_ag (hA b (by simp))];exact H,rfl⟩
theorem M7{t:TypeId}{x:AV}{n:Nat×List Nat}(h:lenOf P t mem x=some n)(hA:Ag n.2 mem mem'):lenOf P t mem' x=some n:=by
 unfold lenOf at h⊢
 split at h
 ·exact h
 ·split at h<;>try exact h
  rename_i b g;obtain⟨x,H,rfl⟩:=yc.1 h;exact yc.2 ⟨x,by rw[box?_ag (hA b (by simp))];exact H,rfl⟩
 ·simp at h
variable {out:cU}
theorem NB{t:TypeId}{a:AV}(h:iA P t mem a=some out)(hA:Ag out.rd mem mem'):iA P t mem' a=some out:=by
 unfold iA at h⊢
 split at h
 ·exact h
 ·rename_i b g i c;rw[bind_some]at h⊢;obtain⟨x,H,h⟩:=h;refine⟨x,?_,h⟩;have:b∈out.rd:=by
   split at h
   ·rw[bind_some]at h;obtain⟨ag,_,h⟩:=h;cases ag with
    |true=>
     simp only[yl]at h;rw[bind_some]at h;obtain⟨n,_,h⟩:=h;rw[aA]at h;obtain⟨_,h⟩:=h;obtain rfl:=ya h;simp
    |false=>
     simp only[yj]at h;obtain⟨v,_,rfl⟩:=yc.1 h;simp
   ·rw[aA]at h;obtain⟨_,h⟩:=h;rw[aA]at h;obtain⟨_,h⟩:=h;obtain⟨v,_,rfl⟩:=yc.1 h;simp
   ·rw[bind_some]at h;obtain⟨y,_,h⟩:=h;obtain⟨v,_,rfl⟩:=yc.1 h;simp
   ·cases h
  rw[box?_ag (hA b this)];exact H
 ·simp at h
theorem Mi{t:TypeId}{a x:AV}(h:gZ P t mem a x=some out)(hA:Ag out.rd mem mem'):gZ P t mem' a x=some out:=by
 unfold gZ at h⊢
 split at h
 ·rename_i b g i c;rw[bind_some]at h⊢;obtain⟨O,I,h⟩:=h;refine⟨O,?_,?_⟩
  ·have:b∈out.rd:=by
    rw[bind_some]at h;obtain⟨n,_,h⟩:=h;rw[aA]at h;obtain⟨_,h⟩:=h;split at h
    ·rw[aA]at h;obtain⟨_,h⟩:=h;obtain rfl:=ya h;simp
    ·split at h
     ·rw[aA]at h;obtain⟨_,h⟩:=h;obtain rfl:=ya h;simp
     ·simp at h
    ·rw[bind_some]at h;obtain⟨p,_,h⟩:=h;rw[bind_some]at h;obtain⟨q,_,h⟩:=h;rw[aA]at h;obtain⟨_,h⟩:=h;obtain rfl:=ya h;simp
    ·cases h
   rw[box?_ag (hA b this)];exact I
  ·rw[bind_some]at h⊢;obtain⟨n,hn,h⟩:=h;refine⟨n,hn,?_⟩;rw[aA]at h⊢;obtain⟨N,h⟩:=h;refine⟨N,?_⟩;split at h
   ·exact h
   ·exact h
   ·rw[bind_some]at h⊢;obtain⟨p,M,h⟩:=h;refine⟨p,M,?_⟩;rw[bind_some]at h⊢;obtain⟨q,U,h⟩:=h;have J:=h;rw[aA]at h;obtain⟨_,h⟩:=h;obtain rfl:=ya h;have H:Ag q.2.2 mem mem':=hA.sub λb K=>yg _ K;exact⟨q,Cv U H,by rw[sF H];exact J⟩
   ·exact h
 ·simp at h
theorem Mv{t:TypeId}{x:AV}{i:Int}(h:gG P t mem x i=some out)(hA:Ag out.rd mem mem'):gG P t mem' x i=some out:=by
 unfold gG at h⊢
 split at h
 ·rw[bind_some]at h⊢;obtain⟨s,hs,h⟩:=h;refine⟨s,hs,?_⟩;split at h<;>try exact h
  ·rename_i b g o n;rw[bind_some]at h⊢;obtain⟨I,H,h⟩:=h;refine⟨I,?_,h⟩;rw[aA]at h;obtain⟨_,h⟩:=h;obtain rfl:=ya h;rw[box?_ag (hA b (by simp))];exact H
  ·rename_i b g;rw[bind_some]at h⊢;obtain⟨I,H,h⟩:=h;refine⟨I,?_,h⟩;rw[aA]at h;obtain⟨_,h⟩:=h;obtain rfl:=ya h;rw[box?_ag (hA b (by simp))];exact H
 ·exact h
 ·simp at h
theorem Mu{t:TypeId}{x:AV}{M K J:Option Int}(h:fA P t mem x M K J=some out)(hA:Ag out.rd mem mem'):fA P t mem' x M K J=some out:=by
 unfold fA at h⊢
 split at h
 ·exact h
 ·rw[bind_some]at h⊢;obtain⟨s,hs,h⟩:=h;refine⟨s,hs,?_⟩;split at h<;>try exact h
  ·rename_i b g o n;rw[bind_some]at h⊢;obtain⟨I,H,h⟩:=h;refine⟨I,?_,h⟩;rw[aA]at h;obtain⟨_,h⟩:=h;obtain⟨q,_,rfl⟩:=yc.1 h;rw[box?_ag (hA b (by simp))];exact H
  ·rename_i b g;rw[bind_some]at h⊢;obtain⟨I,H,h⟩:=h;refine⟨I,?_,h⟩;rw[aA]at h;obtain⟨_,h⟩:=h;obtain⟨q,_,rfl⟩:=yc.1 h;rw[box?_ag (hA b (by simp))];exact H
 ·rw[bind_some]at h⊢;obtain⟨s,hs,h⟩:=h;refine⟨s,hs,?_⟩;split at h
  ·rename_i b g c;rw[aA]at h⊢;obtain⟨N,h⟩:=h;refine⟨N,?_⟩;rw[bind_some]at h⊢;obtain⟨I,H,h⟩:=h;refine⟨I,?_,h⟩;split at h
   ·rw[aA]at h;obtain⟨_,h⟩:=h;obtain⟨q,_,rfl⟩:=yc.1 h;rw[box?_ag (hA b (by simp))];exact H
   ·simp at h
  ·simp at h
 ·simp at h
theorem Kh{boxed vars:Bool}{t W:TypeId}{rs:Nat}{x y:AV}(h:f6 P boxed vars t W mem rs x y=some out)(hA:Ag out.rd mem mem'):f6 P boxed vars t W mem' rs x y=some out:=by
 unfold f6 at h⊢
 rw[bind_some]at h⊢;obtain⟨et,O,h⟩:=h;refine⟨et,O,?_⟩;rw[bind_some]at h⊢;obtain⟨s,hs,h⟩:=h;refine⟨s,hs,?_⟩;rw[bind_some]at h⊢;obtain⟨bytes,M,h⟩:=h;refine⟨bytes,M,?_⟩;rw[bind_some]at h⊢;obtain⟨z,hz,h⟩:=h;refine⟨z,hz,?_⟩;rw[bind_some]at h⊢;obtain⟨K,H,h⟩:=h;have h0:=h;rw[aA]at h;obtain⟨V,h⟩:=h;split at h
 ·refine⟨K,?_,h0⟩;rw[aA]at h;obtain⟨_,h⟩:=h;refine Ak H (hA.sub λb J=>?_);cases boxed with
  |true=>simp only[yl]at h;obtain⟨row,_,rfl⟩:=yc.1 h;exact J
  |false=>simp only[yj]at h;obtain⟨v,_,rfl⟩:=yc.1 h;exact J
 ·rename_i b g;have Z:=h;rw[bind_some]at h;obtain⟨U,I,h⟩:=h;have N:=h;rw[bind_some]at h;obtain⟨Y,_,h⟩:=h;rw[aA]at h;obtain⟨_,h⟩:=h;obtain rfl:=ya h;refine⟨K,Ak H (hA.sub λb J=>yg _ J),?_⟩;rw[aA];refine⟨V,?_⟩;rw[bind_some];exact⟨U,by rw[box?_ag (hA b (ym ..))];exact I,N⟩
 ·rename_i b g o n;have Z:=h;rw[bind_some]at h;obtain⟨U,I,h⟩:=h;have N:=h;rw[bind_some]at h;obtain⟨xv,_,h⟩:=h;rw[bind_some]at h;obtain⟨Y,_,h⟩:=h;rw[aA]at h;obtain⟨_,h⟩:=h;obtain rfl:=ya h;refine⟨K,Ak H (hA.sub λb J=>yg _ J),?_⟩;rw[aA];refine⟨V,?_⟩;rw[bind_some];exact⟨U,by rw[box?_ag (hA b (ym ..))];exact I,N⟩
 ·simp at h
theorem NA{t I:TypeId}{rs:Nat}{n:Int}(h:BP P t I mem rs n=some out):BP P t I mem' rs n=some out:=by
 unfold BP at h⊢
 split at h
 ·rw[bind_some]at h⊢;obtain⟨O,H,h⟩:=h;refine⟨O,H,?_⟩;rw[bind_some]at h⊢;obtain⟨z,K,h⟩:=h;refine⟨z,K,?_⟩;split at h
  ·rw[bind_some]at h⊢;obtain⟨q,N,h⟩:=h;have M:=h;rw[bind_some]at h;obtain⟨e,_,h⟩:=h;rw[bind_some]at h;obtain⟨bytes,_,h⟩:=h;rw[aA]at h;have J:=h.1;simp only[yb]at J;exact⟨q,Cv N (by rw[mA J.2.2];exact λb U=>by cases U),M⟩
  ·cases h
 ·cases h
theorem I1{boxed vars:Bool}{b:Builtin}{ts:List TypeId}{rs:Nat}{args:List AV}(h:dK P boxed vars b ts mem rs args=some out)(hA:Ag out.rd mem mem'):dK P boxed vars b ts mem' rs args=some out:=by
 unfold dK at h⊢
 split at h
 ·obtain⟨n,hn,rfl⟩:=yc.1 h;exact yc.2 ⟨n,M7 hn hA,rfl⟩
 ·exact NA h
 ·exact Kh h hA
 ·exact h
 ·exact h
 ·exact h
 ·simp at h
theorem H3{boxed:Bool}{H dst:TypeId}{rs:Nat}{x:AV}(h:j7 P boxed H dst mem rs x=some out)(hA:Ag out.rd mem mem'):j7 P boxed H dst mem' rs x=some out:=by
 unfold j7 at h⊢
 split at h
 ·exact h
 ·exact h
 ·split at h
  ·rw[bind_some]at h⊢;obtain⟨v,K,h⟩:=h;refine⟨v,Ak K ?_,h⟩;rw[aA]at h;obtain⟨_,h⟩:=h;split at h
   ·obtain rfl:=ya h;exact hA
   ·simp at h
  ·exact h
 ·split at h
  ·rw[aA]at h⊢;obtain⟨I,h⟩:=h;refine⟨I,?_⟩;rw[bind_some]at h⊢;obtain⟨x,J,h⟩:=h;refine⟨x,?_,h⟩;rw[aA]at h;obtain⟨_,h⟩:=h;obtain rfl:=ya h;rw[box?_ag (hA _ (by simp))];exact J
  ·exact h
 ·simp at h
theorem rU{l:LK}{v:AV}{r:AV×List Nat}(h:fX P mem l v=some r)(hA:Ag r.2 mem mem'):fX P mem' l v=some r:=by
 unfold fX at h⊢
 split at h
 ·obtain⟨q,H,rfl⟩:=yc.1 h;exact yc.2 ⟨q,Fi H hA,rfl⟩
 ·obtain⟨q,H,rfl⟩:=yc.1 h;exact yc.2 ⟨q,Fi H hA,rfl⟩
 ·exact h
theorem z8: ∀{ls:List LK} {vs:List AV} {r:List AV×List Nat},bR P mem ls vs=some r->Ag r.2 mem mem'->bR P mem' ls vs=some r
 | [],[],r,h,_=>h
 | [],v::vs,r,h,_=>by simp[bR]at h
 |l::ls,[],r,h,_=>by simp[bR]at h
 |l::ls,v::vs,r,h,hA=>by
  simp only[bR]at h⊢
  rw[bind_some]at h;obtain⟨a,I,h⟩:=h;rw[bind_some]at h;obtain⟨b,H,h⟩:=h;obtain rfl:=ya h;rw[rU I (hA.sub λb H=>yq1 _ H),z8 H (hA.sub λb H=>yr1 _ H)];rfl
theorem OB{t:TypeId}{v:AV}{r:AV×List Nat}(h:lend P mem t v=some r)(hA:Ag r.2 mem mem'):lend P mem' t v=some r:=by
 unfold lend at h⊢
 split at h
 ·rw[bind_some]at h⊢;obtain⟨l,I,h⟩:=h;exact⟨l,I,rU h hA⟩
 ·rw[bind_some]at h⊢;obtain⟨l,I,h⟩:=h;exact⟨l,I,rU h hA⟩
 ·rename_i cs;cases H:FU cs with
  |true=>
   rw[H]at h;simp only[yl]at h⊢
   rw[bind_some]at h⊢;obtain⟨ls,J,h⟩:=h;refine⟨ls,J,?_⟩;obtain⟨q,K,rfl⟩:=yc.1 h;exact yc.2 ⟨q,z8 K hA,rfl⟩
  |false=>rw[H]at h;exact h
 ·exact h
theorem Dp: ∀{ts:List TypeId} {vs:List AV} {r:List AV×List Nat},fI P mem ts vs=some r->Ag r.2 mem mem'->fI P mem' ts vs=some r
 | [],[],r,h,_=>h
 | [],v::vs,r,h,_=>by simp[fI]at h
 |t::ts,[],r,h,_=>by simp[fI]at h
 |t::ts,v::vs,r,h,hA=>by
  simp only[fI]at h⊢
  rw[bind_some]at h;obtain⟨a,I,h⟩:=h;rw[bind_some]at h;obtain⟨b,H,h⟩:=h;obtain rfl:=ya h;rw[OB I (hA.sub λb H=>yq1 _ H),Dp H (hA.sub λb H=>yr1 _ H)];rfl
theorem Bc: ∀{n:Nat} {I H:List Nat},∀b∈H,b∈fF mem n I H
 |0,I,H,b,J=>by simpa[fF]using J
 |n+1,[],H,b,J=>by simpa[fF]using J
 |n+1,t::I,H,b,J=>by
  simp only[fF];cases dL t H with
  |true=>simp only[yl];exact Bc b J
  |false=>simp only[yj];exact Bc b (yq1 _ J)
theorem Df: ∀{n:Nat} {I H:List Nat},Ag (fF mem n I H) mem mem'->fF mem' n I H=fF mem n I H
 |0,I,H,_=>by simp[fF]
 |n+1,[],H,_=>by simp[fF]
 |n+1,t::I,H,hA=>by
  simp only[fF]at hA⊢
  cases hm:dL t H with
  |true=>rw[hm]at hA;simp only[yl]at hA⊢;exact Df hA
  |false=>
   rw[hm]at hA;simp only[yj]at hA⊢
   have ht:mem'[t]?=mem[t]?:=hA t (Bc t (by simp));have:AX mem' t=AX mem t:=by unfold AX;rw[ht]
   rw[this];exact Df hA
theorem C7: ∀{ids:List Nat} {b n:Nat},b∉ids->sC b ids n=none
 | [],b,n,_=>rfl
 |m::r,b,n,h=>by
  simp only[sC];cases H:Nat.beq m b with
  |true=>exact absurd (by rw[bI.1 H];exact ym ..) h
  |false=>simp only[yj];exact C7 λI=>h (yg _ I)
theorem J8{b:Nat}(h:mem'[b]?=mem[b]?):j3 mem' b=j3 mem b:=by unfold j3;rw[h]
theorem ND{m:Nat}{keep:Bool}{ids:List Nat}(hA:Ag ids mem mem'):eU m keep mem' ids=eU m keep mem ids:=by
 funext b g;by_cases H:b∈ids
 ·unfold eU;rw[E1 (hA b H),J8 (hA b H)]
 ·have J:sC b ids 0=none:=C7 H;have: ∀I:aK,eU m keep I ids b g=none:=by
   intro I;unfold eU;split
   ·rw[J];cases Nat.beq _ g<;>rfl
   ·rfl
  rw[this,this]
theorem C4{m:Nat}{keep:Bool}(f:i7): ∀{ids:List Nat} {n:Nat},Ag ids mem mem'->dN m keep f mem' n ids=dN m keep f mem n ids
 | [],_,_=>rfl
 |b::r,n,h=>by
  simp only[dN,h b (ym ..),C4 f (ids:=r) (h.sub λb H=>yg _ H)]
theorem o7(f:i7): ∀{ids:List Nat} {q:aK},Ag ids mem mem'->bE f mem' ids q=bE f mem ids q
 | [],q,_=>by simp[bE]
 |a::ids,[],_=>by simp[bE]
 |a::ids,none::q,h=>by simp only[bE];exact o7 f (h.sub λb H=>yg _ H)
 |a::ids,some x::q,h=>by
  simp only[bE,E1 (h a (ym ..)),o7 f (ids:=ids) (q:=q) (h.sub λb H=>yg _ H)]
theorem KN{sub:aK}{ids:List Nat}(I:mem'.length=mem.length)(hA:Ag ids mem mem'):cI mem' sub ids=cI mem sub ids:=by
 funext b g;unfold cI;cases H:ids[b]? with
 |none=>simp only[I]
 |some a=>simp only[E1 (hA a (yt H))]
theorem Nq{keep:Bool}{ts:List TypeId}{vs:List AV}{r:List AV×List Nat}(h:H9 P keep mem ts vs=some r)(hA:Ag r.2 mem mem'):H9 P keep mem' ts vs=some r:=by
 cases keep with
 |true=>exact h
 |false=>exact Dp h hA
theorem NF{C:bM}{raw keep:Bool}{g:FuncId}{ts:List TypeId}{H args J:List AV}(V:mem'.length=mem.length)(h:vQ P C raw keep g ts H args J mem=some out)(hA:Ag out.rd mem mem'):vQ P C raw keep g ts H args J mem'=some out:=by
 unfold vQ at h⊢
 rw[bind_some]at h⊢;obtain⟨I,O,h⟩:=h;simp only at h;have U:out.rd=I.2++fF mem (cW mem (AV.refsAll (H++I.1++J)).length) (AV.refsAll (H++I.1++J)) []:=by
  rw[aA]at h;obtain⟨_,h⟩:=h;rw[bind_some]at h;obtain⟨q,_,h⟩:=h;rw[aA]at h;obtain⟨_,h⟩:=h;revert h;cases(e6 (fF mem (cW mem (AV.refsAll (H++I.1++J)).length) (AV.refsAll (H++I.1++J)) []).length
    (bif raw then q.1 else kP (fF mem (cW mem (AV.refsAll (H++I.1++J)).length) (AV.refsAll (H++I.1++J)) []).length q.2 q.1).refs&&
     e6 (fF mem (cW mem (AV.refsAll (H++I.1++J)).length) (AV.refsAll (H++I.1++J)) []).length
      (b6 (List.take (fF mem (cW mem (AV.refsAll (H ++ I.1 ++ J)).length) (AV.refsAll (H ++ I.1 ++ J)) []).length q.2))) with
  |true=>intro h;simp only[yl]at h;obtain rfl:=ya h;rfl
  |false=>intro h;simp only[yj]at h;obtain rfl:=ya h;rfl
 rw[U]at hA;refine⟨I,Nq O (hA.sub λb N=>yq1 _ N),?_⟩;have M: ∀n,cW mem' n=cW mem n:=λn=>by unfold cW;rw[V]
 have K:=hA.sub (S':=fF mem (cW mem (AV.refsAll (H++I.1++J)).length) (AV.refsAll (H++I.1++J)) []) λb N=>yr1 _ N;simp only[M,Df K,ND K,C4 _ K,KN V K,o7 _ K];exact h
theorem OO{C:bM}{boxed raw vars:Bool}{o:Oper}{ρ:Operand->Option AV}{rs:Nat}(hl:j9 o=true->mem'.length=mem.length)(h:Lg P C boxed raw vars o ρ mem rs=some out)(hA:Ag out.rd mem mem'):
  Lg P C boxed raw vars o ρ mem' rs=some out:=by
 unfold Lg CH zV IB zI e5 sV Jp H1 MR Dc AW u9 kA Aj sT oK AG at h⊢
 split at h<;>rename_i Z<;>try exact h
 ·rw[bind_some]at h⊢;obtain⟨et,I,h⟩:=h;refine⟨et,I,?_⟩;rw[bind_some]at h⊢;obtain⟨z,W,h⟩:=h;refine⟨z,W,?_⟩;rw[bind_some]at h⊢;obtain⟨s,hs,h⟩:=h;refine⟨s,hs,?_⟩;rw[bind_some]at h⊢;obtain⟨ps,U,h⟩:=h;refine⟨ps,U,?_⟩;rw[aA]at h⊢;obtain⟨J,h⟩:=h;refine⟨J,?_⟩;rw[bind_some]at h⊢;obtain⟨wv,hwv,h⟩:=h;have h':=h;rw[aA]at h;obtain⟨_,h⟩:=h;obtain⟨ov,_,rfl⟩:=yc.1 h;exact⟨wv,ME hwv hA,by rw[sF hA];exact h'⟩
 ·rw[bind_some]at h⊢;obtain⟨a,K,h⟩:=h;exact⟨a,K,NB h hA⟩
 ·rw[bind_some]at h⊢;obtain⟨a,K,h⟩:=h;refine⟨a,K,?_⟩;rw[bind_some]at h⊢;obtain⟨x,M,h⟩:=h;exact⟨x,M,Mi h hA⟩
 ·rw[bind_some]at h⊢;obtain⟨a,K,h⟩:=h;exact⟨a,K,H3 h hA⟩
 ·rw[bind_some]at h⊢;obtain⟨et,I,h⟩:=h;refine⟨et,I,?_⟩;rw[bind_some]at h⊢;obtain⟨z,W,h⟩:=h;refine⟨z,W,?_⟩;rw[bind_some]at h⊢;obtain⟨l,N,h⟩:=h;refine⟨l,N,?_⟩;rw[bind_some]at h⊢;obtain⟨c,hc,h⟩:=h;refine⟨c,hc,?_⟩;split at h
  ·rw[aA]at h⊢;obtain⟨J,h⟩:=h;refine⟨J,?_⟩;split at h
   ·exact h
   ·rw[bind_some]at h⊢;obtain⟨q,hq,h⟩:=h;refine⟨q,?_,h⟩;rw[bind_some]at h;obtain⟨e,_,h⟩:=h;rw[bind_some]at h;obtain⟨bytes,_,h⟩:=h;rw[aA]at h;obtain⟨J,h⟩:=h;simp only[yb]at J;have:q.2.2= []:=mA J.2;exact Cv hq (by rw[this];intro b hb;cases hb)
  ·exact h
 ·rw[bind_some]at h⊢;obtain⟨x,M,h⟩:=h;refine⟨x,M,?_⟩;rw[bind_some]at h⊢;obtain⟨lo,V,h⟩:=h;refine⟨lo,V,?_⟩;rw[bind_some]at h⊢;obtain⟨hi,Y,h⟩:=h;refine⟨hi,Y,?_⟩;rw[bind_some]at h⊢;obtain⟨mx,O,h⟩:=h;exact⟨mx,O,Mu h hA⟩
 ·rw[bind_some]at h⊢;obtain⟨x,M,h⟩:=h;refine⟨x,M,?_⟩;rw[bind_some]at h⊢;obtain⟨ix,hix,h⟩:=h;refine⟨ix,hix,?_⟩;split at h
  ·exact Mv h hA
  ·exact h
 ·rename_i c;rw[bind_some]at h⊢;obtain⟨args,H,h⟩:=h;refine⟨args,H,?_⟩;split at h
  ·exact I1 h hA
  ·rename_i f hc;rw[bind_some]at h⊢;obtain⟨fv,hf,h⟩:=h;refine⟨fv,hf,?_⟩;split at h
   ·exact NF (hl (by unfold j9;rw[Z];simp only;rw[hc])) h hA
   ·exact h
  ·exact h
theorem l9{ρ ρ':Operand->Option AV}: ∀{xs:List Operand},(∀x∈xs,ρ' x=ρ x)->mG ρ' xs=mG ρ xs
 | [],_=>rfl
 |x::r,h=>by simp only[mG,h x (ym ..),l9 (xs:=r) (λy H=>h y (yg _ H))]
theorem kT{ρ ρ':Operand->Option AV}: ∀{xs:List (Nat×Operand)},(∀x∈xs.map (·.2),ρ' x=ρ x)->jC ρ' xs=jC ρ xs
 | [],_=>rfl
 |(i,x)::r,h=>by simp only[jC,h x (by simp),kT (xs:=r) (λy H=>h y (yg _ H))]
theorem i9{ρ ρ':Operand->Option AV}{x:Option Operand}(h: ∀y,x=some y->ρ' y=ρ y):z9 ρ' x=z9 ρ x:=by
 cases x with
 |none=>rfl
 |some y=>simp only[z9,h y rfl]
theorem N2{C:bM}{boxed raw vars:Bool}{o:Oper}{ρ ρ':Operand->Option AV}{rs:Nat}(h: ∀x∈o.op.operands,ρ' x=ρ x):Lg P C boxed raw vars o ρ' mem rs=Lg P C boxed raw vars o ρ mem rs:=by
 obtain⟨dst,op,M,N,K,guard⟩:=o;cases op<;>simp only[Op.operands]at h<;>simp only[Lg,CH,zV,IB,zI,e5,sV,Jp,H1,MR,Dc,AW,u9,kA,Aj,sT,oL,oK,AG]
 case move x=>simp only[q7,h x (by simp)]
 case assign x=>simp only[q7,h x (by simp)]
 case build t ps=>rw[kT (λx H=>h x (by simpa using H))]
 case buildSlice t n ps=>rw[kT (λx H=>h x (by simpa using H))]
 case makeFunc fn first captured=>
  rw[l9 (xs:=first.toList) λx H=>h x (by simp at H⊢;exact .inl H),l9 (xs:=captured.toList) λx H=>h x (by simp at H⊢;exact .inr H)]
 case slice t x lo hi mx=>
  rw[h x (by simp),i9 (x:=lo) λy I=>h y (by simp[I]),i9 (x:=hi) λy I=>h y (by simp[I]),i9 (x:=mx) λy I=>h y (by simp[I])]
 case call c=>
  obtain⟨J,args,ts⟩:=c;simp only[Call.operands]at h;rw[l9 (xs:=args.toList) λx H=>h x (by simp at H⊢;exact .inr H)];cases J with
  |builtin b=>rfl
  |value f=>simp only[h f (by simp)]
  |invoke r m=>rfl
 all_goals (first|rfl|(simp_all;done))
theorem IY{xs:List PV}{i c:Nat}{l:LK}{hs:List (Nat×Nat×AV)}{nb nb':Nat}:mJ false xs i c l hs nb=mJ false xs i c l hs nb':=by
 unfold mJ;cases xs[i]? with
 |none=>rfl
 |some p=>
  simp only[ye];cases p.cells[c]? with
  |none=>rfl
  |some y=>
   simp only[ye];split
   ·rfl
   ·cases wO l<;>rfl
theorem Gw{xs:List PV}{i:Nat}: ∀{ls:List LK} {c:Nat} {hs:List (Nat×Nat×AV)} {nb nb':Nat},nE false xs i ls c hs nb=nE false xs i ls c hs nb'
 | [],c,hs,nb,nb'=>rfl
 |l::ls,c,hs,nb,nb'=>by
  simp only[nE];rw[IY (nb':=nb')];cases mJ false xs i c l hs nb' with
  |none=>rfl
  |some a=>simp only[ye];rw[Gw (ls:=ls) (nb:=nb+a.2.2.length) (nb':=nb'+a.2.2.length)]
theorem Jf{b e:Nat}{H:bG}{xs:List PV}{v:AV}{q:List (Nat×Nat×AV)×List aX}:(yZ b e H xs v q).rd= [b]:=by unfold yZ;split<;>rfl
theorem IC{t:TypeId}{a:AV}(h:zO P false t mem a=some out)(hA:Ag out.rd mem mem'):zO P false t mem' a=some out/\∀b g i c,a= .ptr b g i c->b∈out.rd:=by
 unfold zO at h⊢
 split at h
 ·rename_i b g i c;rw[bind_some]at h;obtain⟨bx,I,h⟩:=h;have H:b∈out.rd:=by
   split at h
   ·split at h
    ·rw[bind_some]at h;obtain⟨l,hl,h⟩:=h;obtain⟨q,M,rfl⟩:=yc.1 h;rw[Jf];simp
    ·rw[bind_some]at h;obtain⟨ls,K,h⟩:=h;rw[bind_some]at h;obtain⟨n,hn,h⟩:=h;rw[aA]at h;obtain⟨_,h⟩:=h;obtain⟨q,M,rfl⟩:=yc.1 h;rw[Jf];simp
    ·cases h
   ·cases h
  refine⟨?_,λb' g' i' c' J=>by cases J;exact H⟩;rw[boxO?_ag (hA b H),I,ye];split at h
  ·split at h
   ·simp only[IY (nb:=mem'.length) (nb':=mem.length)];exact h
   ·simp only[Gw (nb:=mem'.length) (nb':=mem.length)];exact h
   ·exact h
  ·exact h
 ·cases h
theorem LN{t:TypeId}{a x:AV}(h:kH P t mem a x=some out)(hA:Ag out.rd mem mem'):kH P t mem' a x=some out/\∀b g i c,a= .ptr b g i c->b∈out.rd:=by
 unfold kH at h⊢
 split at h
 ·rename_i b g i c;rw[bind_some]at h;obtain⟨bx,I,h⟩:=h;have H:b∈out.rd:=by
   split at h
   ·rw[bind_some]at h;obtain⟨n,hn,h⟩:=h;rw[aA]at h;obtain⟨_,h⟩:=h;rw[bind_some]at h;obtain⟨p,_,h⟩:=h;rw[bind_some]at h;obtain⟨y,_,h⟩:=h;split at h
    ·rw[aA]at h;obtain⟨_,h⟩:=h;obtain rfl:=ya h;simp
    ·cases h
    ·rw[bind_some]at h;obtain⟨y',_,h⟩:=h;obtain⟨hs',_,rfl⟩:=yc.1 h;simp
    ·cases h
    ·obtain⟨hs',_,rfl⟩:=yc.1 h;simp
   ·cases h
  refine⟨?_,λb' g' i' c' J=>by cases J;exact H⟩;rw[boxO?_ag (hA b H),I,ye];exact h
 ·cases h
theorem Oe{t:TypeId}{x:AV}(h:Im P t mem x=some out)(hA:Ag out.rd mem mem'):Im P t mem' x=some out/\∀b g,x= .msw b g->b∈out.rd:=by
 unfold Im at h⊢
 split at h
 ·rename_i e b g hu;obtain⟨bx,H,rfl⟩:=yc.1 h;refine⟨?_,λb' g' I=>by cases I;simp⟩;rw[boxO?_ag (hA b (by simp)),H];rfl
 ·cases h
def rK:AV->Option Nat
 | .msw b _=>some b
 | .ms b _ _ _=>some b
 |_=>none
theorem Me{t:TypeId}{x:AV}{i:Int}(h:pK P t mem x i=some out)(hA:Ag out.rd mem mem'):pK P t mem' x i=some out/\∀b,rK x=some b->b∈out.rd:=by
 unfold pK at h⊢
 split at h
 ·rw[bind_some]at h;obtain⟨s,hs,h⟩:=h;simp only[hs,ye];split at h
  ·rename_i b g o n;rw[bind_some]at h;obtain⟨M,H,h⟩:=h;have I:=h;rw[aA]at h;obtain⟨_,h⟩:=h;obtain rfl:=ya h;refine⟨?_,λK J=>by cases J;simp⟩;rw[boxO?_ag (hA b (by simp)),H];exact I
  ·rename_i b g;rw[bind_some]at h;obtain⟨M,H,h⟩:=h;have I:=h;rw[aA]at h;obtain⟨_,h⟩:=h;obtain rfl:=ya h;refine⟨?_,λK J=>by cases J;simp⟩;rw[boxO?_ag (hA b (by simp)),H];exact I
  ·cases h
 ·cases h
theorem Mf{t:TypeId}{x:AV}{N M K:Option Int}(h:pA P t mem x N M K=some out)(hA:Ag out.rd mem mem'):pA P t mem' x N M K=some out/\∀b,rK x=some b->b∈out.rd:=by
 unfold pA at h⊢
 split at h
 ·rw[bind_some]at h;obtain⟨s,hs,h⟩:=h;simp only[hs,ye];split at h
  ·rename_i b g o n;rw[bind_some]at h;obtain⟨U,H,h⟩:=h;have I:=h;rw[aA]at h;obtain⟨_,h⟩:=h;obtain⟨q,_,rfl⟩:=yc.1 h;refine⟨?_,λO J=>by cases J;simp⟩;rw[boxO?_ag (hA b (by simp)),H];exact I
  ·rename_i b g;rw[bind_some]at h;obtain⟨U,H,h⟩:=h;have I:=h;rw[aA]at h;obtain⟨_,h⟩:=h;obtain⟨q,_,rfl⟩:=yc.1 h;refine⟨?_,λO J=>by cases J;simp⟩;rw[boxO?_ag (hA b (by simp)),H];exact I
  ·cases h
 ·cases h
theorem Ke{own:Bool}{t O:TypeId}{rs:Nat}{x y:AV}(h:kX P own t O mem rs x y=some out)(hA:Ag out.rd mem mem'):kX P own t O mem' rs x y=some out/\∀b,rK x=some b->b∈out.rd:=by
 unfold kX at h⊢
 rw[bind_some]at h;obtain⟨et,N,h⟩:=h;rw[bind_some]at h;obtain⟨s,hs,h⟩:=h;rw[bind_some]at h;obtain⟨bytes,J,h⟩:=h;rw[bind_some]at h;obtain⟨z,W,h⟩:=h;rw[bind_some]at h;obtain⟨ls,M,h⟩:=h;rw[bind_some]at h;obtain⟨U,K,h⟩:=h;simp only[N,hs,J,W,M,ye];have I:(∀b∈U.2,b∈out.rd)/\∀b,rK x=some b->b∈out.rd:=by
  split at h
  ·rw[aA]at h;obtain⟨_,h⟩:=h;split at h
   ·rw[aA]at h;obtain⟨_,h⟩:=h;rw[bind_some]at h;obtain⟨q,_,h⟩:=h;rw[aA]at h;obtain⟨_,h⟩:=h;obtain rfl:=ya h;exact⟨λb H=>H,λb H=>by cases H⟩
   ·rw[bind_some]at h;obtain⟨Y,_,h⟩:=h;split at h
    ·rw[bind_some]at h;obtain⟨q,_,h⟩:=h;rw[aA]at h;obtain⟨_,h⟩:=h;obtain rfl:=ya h;exact⟨λb H=>yg _ H,λb H=>by cases H;simp⟩
    ·cases h
   ·rw[bind_some]at h;obtain⟨Y,_,h⟩:=h;split at h
    ·rw[bind_some]at h;obtain⟨q,_,h⟩:=h;rw[aA]at h;obtain⟨_,h⟩:=h;obtain rfl:=ya h;exact⟨λb H=>yg _ H,λb H=>by cases H;simp⟩
    ·cases h
   ·cases h
  ·cases h
 refine⟨?_,I.2⟩;rw[Ak K (hA.sub I.1),ye];split at h
 ·rw[aA]at h⊢;obtain⟨V,h⟩:=h;refine⟨V,?_⟩;split at h
  ·exact h
  ·rename_i b g;rw[boxO?_ag (hA b (I.2 b rfl))];exact h
  ·rename_i b g n;rw[boxO?_ag (hA b (I.2 b rfl))];exact h
  ·exact h
 ·exact h
theorem gS{ρ:Operand->Option AV}{p H:AV->Bool}{x:Operand}{v:AV}(I:ρ x=some v)(h:H v=p v):kM ρ H x=kM ρ p x:=by unfold kM;rw[I];exact h
theorem Cs{v:AV}(h: ∀b g i c,v= .ptr b g i c->mem'[b]?=mem[b]?):HO mem' v=HO mem v:=by
 cases v with
 |ptr b g i c=>exact Aa (h b g i c rfl)
 |_=>rfl
theorem vD{v:AV}(h: ∀b,rK v=some b->mem'[b]?=mem[b]?):yM mem' v=yM mem v:=by
 cases v with
 |msw b g=>exact Aa (h b rfl)
 |ms b g o n=>exact Aa (h b rfl)
 |_=>rfl
theorem Lt{v:AV}(h: ∀b g,v= .msw b g->mem'[b]?=mem[b]?):He mem' v=He mem v:=by
 cases v with
 |msw b g=>exact Aa (h b g rfl)
 |_=>rfl
theorem IE{t:TypeId}{b g i c:Nat}(h:iA P t mem (.ptr b g i c)=some out):b∈out.rd:=by
 unfold iA at h;simp only at h;rw[bind_some]at h;obtain⟨x,hx,h⟩:=h;split at h
 ·rw[bind_some]at h;obtain⟨ag,_,h⟩:=h;cases ag with
  |true=>
   simp only[yl]at h;rw[bind_some]at h;obtain⟨n,_,h⟩:=h;rw[aA]at h;obtain⟨_,h⟩:=h;obtain rfl:=ya h;simp
  |false=>
   simp only[yj]at h;obtain⟨v,_,rfl⟩:=yc.1 h;simp
 ·rw[aA]at h;obtain⟨_,h⟩:=h;rw[aA]at h;obtain⟨_,h⟩:=h;obtain⟨v,_,rfl⟩:=yc.1 h;simp
 ·rw[bind_some]at h;obtain⟨y,_,h⟩:=h;obtain⟨v,_,rfl⟩:=yc.1 h;simp
 ·cases h
theorem My{t:TypeId}{x:AV}{b g i c:Nat}(h:gZ P t mem (.ptr b g i c) x=some out):b∈out.rd:=by
 unfold gZ at h;simp only at h;rw[bind_some]at h;obtain⟨bx,H,h⟩:=h;rw[bind_some]at h;obtain⟨n,_,h⟩:=h;rw[aA]at h;obtain⟨_,h⟩:=h;split at h
 ·rw[aA]at h;obtain⟨_,h⟩:=h;obtain rfl:=ya h;simp
 ·split at h
  ·rw[aA]at h;obtain⟨_,h⟩:=h;obtain rfl:=ya h;simp
  ·simp at h
 ·rw[bind_some]at h;obtain⟨p,_,h⟩:=h;rw[bind_some]at h;obtain⟨q,_,h⟩:=h;rw[aA]at h;obtain⟨_,h⟩:=h;obtain rfl:=ya h;simp
 ·cases h
theorem zL{x:AV}{b:Nat}(h:rK x=some b):(∃g,x= .msw b g)\/∃g o n,x= .ms b g o n:=by
 unfold rK at h;split at h
 ·cases h;exact .inl ⟨_,rfl⟩
 ·cases h;exact .inr ⟨_,_,_,rfl⟩
 ·cases h
theorem MK{t:TypeId}{x:AV}{I K J:Option Int}{b:Nat}(h:fA P t mem x I K J=some out)(H:rK x=some b):b∈out.rd:=by
 unfold fA at h;rcases zL H with ⟨g,rfl⟩|⟨g,o,n,rfl⟩<;>simp only at h<;>split at h
 ·cases h
 ·rw[bind_some]at h;obtain⟨s,_,h⟩:=h;rw[bind_some]at h;obtain⟨x,_,h⟩:=h;rw[aA]at h;obtain⟨_,h⟩:=h;obtain⟨q,_,rfl⟩:=yc.1 h;simp
 ·rw[bind_some]at h;obtain⟨s,_,h⟩:=h;cases h
 ·cases h
 ·cases h
 ·rw[bind_some]at h;obtain⟨s,_,h⟩:=h;rw[bind_some]at h;obtain⟨x,_,h⟩:=h;rw[aA]at h;obtain⟨_,h⟩:=h;obtain⟨q,_,rfl⟩:=yc.1 h;simp
 ·rw[bind_some]at h;obtain⟨s,_,h⟩:=h;cases h
 ·cases h
theorem LQ{t:TypeId}{x:AV}{i:Int}{b:Nat}(h:gG P t mem x i=some out)(H:rK x=some b):b∈out.rd:=by
 unfold gG at h;rcases zL H with ⟨g,rfl⟩|⟨g,o,n,rfl⟩<;>simp only at h<;>split at h
 ·rw[bind_some]at h;obtain⟨s,_,h⟩:=h;rw[bind_some]at h;obtain⟨x,_,h⟩:=h;rw[aA]at h;obtain⟨_,h⟩:=h;obtain rfl:=ya h;simp
 ·rw[bind_some]at h;obtain⟨s,_,h⟩:=h;cases h
 ·cases h
 ·rw[bind_some]at h;obtain⟨s,_,h⟩:=h;rw[bind_some]at h;obtain⟨x,_,h⟩:=h;rw[aA]at h;obtain⟨_,h⟩:=h;obtain rfl:=ya h;simp
 ·rw[bind_some]at h;obtain⟨s,_,h⟩:=h;cases h
 ·cases h
theorem JU{boxed vars:Bool}{t N:TypeId}{rs:Nat}{x y:AV}{b:Nat}(h:f6 P boxed vars t N mem rs x y=some out)(I:rK x=some b):b∈out.rd:=by
 unfold f6 at h;rw[bind_some]at h;obtain⟨et,M,h⟩:=h;rw[bind_some]at h;obtain⟨s,hs,h⟩:=h;rw[bind_some]at h;obtain⟨bytes,J,h⟩:=h;rw[bind_some]at h;obtain⟨z,hz,h⟩:=h;rw[bind_some]at h;obtain⟨yv,K,h⟩:=h;rw[aA]at h;obtain⟨_,h⟩:=h;rcases zL I with ⟨g,H⟩|⟨g,o,n,H⟩<;>subst H<;>try simp only at h
 ·rw[bind_some]at h;obtain⟨x,_,h⟩:=h;rw[bind_some]at h;obtain⟨x,_,h⟩:=h;rw[aA]at h;obtain⟨_,h⟩:=h;obtain rfl:=ya h;simp
 ·rw[bind_some]at h;obtain⟨x,_,h⟩:=h;rw[bind_some]at h;obtain⟨x,_,h⟩:=h;rw[bind_some]at h;obtain⟨x,_,h⟩:=h;rw[aA]at h;obtain⟨_,h⟩:=h;obtain rfl:=ya h;simp
theorem OK{own:Bool}{o:Oper}{ρ:Operand->Option AV}{rs:Nat}(h:Fw P own false o ρ mem rs=some out)(hA:Ag out.rd mem mem'):
  Fw P own false o ρ mem' rs=some out/\(bJ own ρ mem o.op=true->bJ own ρ mem' o.op=true):=by
 unfold Fw at h⊢
 split at h<;>rename_i J
 ·exact⟨h,λI=>by rw[J]at I⊢;exact I⟩
 ·exact⟨h,λI=>by rw[J]at I⊢;exact I⟩
 ·exact⟨h,λI=>by rw[J]at I⊢;exact I⟩
 ·exact⟨h,λI=>by rw[J]at I⊢;exact I⟩
 ·rw[bind_some]at h;obtain⟨a,V,h⟩:=h;obtain⟨M,N⟩:=IC h hA;refine⟨by simp only[V,ye];exact M,λI=>?_⟩;rw[J]at I⊢
  simp only[bJ]at I⊢
  rw[gS (p:=HO mem) V (Cs λb g i c K=>hA b (N b g i c K))];exact I
 ·rw[bind_some]at h;obtain⟨a,V,h⟩:=h;rw[bind_some]at h;obtain⟨x,U,h⟩:=h;obtain⟨M,N⟩:=LN h hA;refine⟨by simp only[V,U,ye];exact M,λI=>?_⟩;rw[J]at I⊢
  simp only[bJ]at I⊢
  rw[gS (p:=HO mem) V (Cs λb g i c K=>hA b (N b g i c K))];exact I
 ·rw[bind_some]at h;obtain⟨x,U,h⟩:=h;rw[bind_some]at h;obtain⟨lo,Z,h⟩:=h;rw[bind_some]at h;obtain⟨I,hhi,h⟩:=h;rw[bind_some]at h;obtain⟨mx,Y,h⟩:=h;obtain⟨M,N⟩:=Mf h hA;refine⟨by simp only[U,Z,hhi,Y,ye];exact M,λI=>?_⟩;rw[J]at I⊢
  simp only[bJ]at I⊢
  rw[gS (p:=yM mem) U (vD λb K=>hA b (N b K))];exact I
 ·rw[bind_some]at h;obtain⟨x,U,h⟩:=h;rw[bind_some]at h;obtain⟨ix,hix,h⟩:=h;split at h
  ·obtain⟨M,N⟩:=Me h hA;refine⟨by simp only[U,hix,ye];exact M,λI=>?_⟩;rw[J]at I⊢
   simp only[bJ]at I⊢
   rw[gS (p:=yM mem) U (vD λb K=>hA b (N b K))];exact I
  ·cases h
 ·rename_i c;obtain⟨cal,args,ts⟩:=c;rw[bind_some]at h;obtain⟨as,H,h⟩:=h;simp only at h H J;split at h
  ·rename_i b;unfold j4 at h;split at h
   ·rename_i t x O;obtain⟨M,N⟩:=Oe h hA;refine⟨by simp only[H,ye,j4,O];exact M,λI=>?_⟩;rw[J]at I⊢
    simp only[bJ]at I⊢
    cases W:args.toList with
    |nil=>rw[W]at H;cases H
    |cons a0 l0=>
     rw[W]at I H;cases l0 with
     |cons _ _=>cases I
     |nil=>
      simp only[mG]at H;rw[bind_some]at H;obtain⟨v,hv,H⟩:=H;simp at H;subst H;simp only at I⊢
      rw[gS (p:=He mem) hv (Lt λb g K=>hA b (N b g K))];exact I
   ·rename_i t tx x y O;obtain⟨M,N⟩:=Ke h hA;refine⟨by simp only[H,ye,j4,O];exact M,λI=>?_⟩;rw[J]at I⊢
    simp only[bJ]at I⊢
    cases W:args.toList with
    |nil=>rw[W]at H;cases H
    |cons a0 l0=>
     rw[W]at I H;cases l0 with
     |nil=>cases I
     |cons a1 l1=>
      cases l1 with
      |cons _ _=>cases I
      |nil=>
       simp only[mG]at H;rw[bind_some]at H;obtain⟨v,hv,H⟩:=H;obtain⟨l,hl',H⟩:=yc.1 H;simp only[List.cons.injEq]at H;obtain⟨rfl,_⟩:=H;simp only at I⊢
       rw[gS (p:=yM mem) hv (vD λb K=>hA b (N b K))];exact I
   ·cases h
  ·cases h
 ·cases h
theorem Jh{boxed vars:Bool}{ts:List TypeId}{rs b g:Nat}(h:dK P boxed vars .len ts mem rs [.msw b g]=some out):b∈out.rd:=by
 match ts,h with
 | [t],h=>
  have h:(lenOf P t mem (.msw b g)).map (λn=>({v:= .lit (.int .i64 (n.1:Int)),rd:=n.2}:cU))=some out:=h;obtain⟨n,hn,rfl⟩:=yc.1 h;unfold lenOf at hn;split at hn
  ·cases hn
  ·simp only at hn;obtain⟨x,_,rfl⟩:=yc.1 hn;simp
  ·cases hn
 | [],h=>cases h
 |_::_::_,h=>cases h
theorem CJ{boxed vars:Bool}{ts:List TypeId}{rs b:Nat}{x y:AV}(h:dK P boxed vars .append ts mem rs [x,y]=some out)(H:rK x=some b):b∈out.rd:=by
 match ts,h with
 | [t,I],h=>
  have h:f6 P boxed vars t I mem rs x y=some out:=by
   rcases zL H with ⟨g,rfl⟩|⟨g,o,n,rfl⟩<;>exact h
  exact JU h H
 | [],h=>cases x<;>cases y<;>cases h
 | [_],h=>cases x<;>cases y<;>cases h
 |_::_::_::_,h=>cases x<;>cases y<;>cases h
theorem OQ{C:bM}{own boxed raw vars:Bool}{o:Oper}{ρ:Operand->Option AV}{rs:Nat}(hl:j9 o=true->mem'.length=mem.length)(h:Fy P C own false boxed raw vars o ρ mem rs=some out)(hA:Ag out.rd mem mem'):
  Fy P C own false boxed raw vars o ρ mem' rs=some out:=by
 unfold Fy at h⊢
 cases N:bJ own ρ mem o.op with
 |true=>
  rw[N]at h;simp only[yl]at h;obtain⟨Y,h2⟩:=OK h hA;rw[h2 N];exact Y
 |false=>
  rw[N]at h;simp only[yj]at h;have W:=OO hl h hA;have:bJ own ρ mem' o.op=false:=by
   rw[<-N];unfold Lg sV u9 sT AG at h;split at h<;>rename_i M<;>first|(cases h;done)|(rw[M];try rfl)
   ·rw[bind_some]at h;obtain⟨a,U,h⟩:=h;exact gS (p:=HO mem) U (Cs λb g i c I=>hA b (by subst I;exact IE h))
   ·rw[bind_some]at h;obtain⟨a,U,h⟩:=h;rw[bind_some]at h;obtain⟨x,O,h⟩:=h;exact gS (p:=HO mem) U (Cs λb g i c I=>hA b (by subst I;exact My h))
   ·rw[bind_some]at h;obtain⟨x,O,h⟩:=h;rw[bind_some]at h;obtain⟨lo,hlo,h⟩:=h;rw[bind_some]at h;obtain⟨hi,hhi,h⟩:=h;rw[bind_some]at h;obtain⟨mx,Z,h⟩:=h;exact gS (p:=yM mem) O (vD λb I=>hA b (MK h I))
   ·rw[bind_some]at h;obtain⟨x,O,h⟩:=h;rw[bind_some]at h;obtain⟨ix,hix,h⟩:=h;split at h
    ·exact gS (p:=yM mem) O (vD λb I=>hA b (LQ h I))
    ·cases h
   ·rename_i c;obtain⟨cal,args,ts⟩:=c;rw[bind_some]at h;obtain⟨as,H,h⟩:=h;simp only at h H M⊢
    simp only[bJ];split
    ·rename_i x K;rw[K]at H;simp only[mG]at H;rw[bind_some]at H;obtain⟨v,V,H⟩:=H;simp at H;subst H;exact gS (p:=He mem) V (Lt λb g I=>hA b (by subst I;exact Jh h))
    ·rename_i x y K;rw[K]at H;simp only[mG]at H;rw[bind_some]at H;obtain⟨v,V,H⟩:=H;obtain⟨l,J,H⟩:=yc.1 H;subst H;congr 1;refine gS (p:=yM mem) V (vD λb I=>hA b ?_);rw[bind_some]at J;obtain⟨u,hu,J⟩:=J;simp at J;subst J;exact CJ h I
    ·rfl
  rw[this];exact W
theorem I2{own:Bool}{o:Oper}{ρ ρ':Operand->Option AV}(h: ∀x∈o.op.operands,ρ' x=ρ x):bJ own ρ' mem o.op=bJ own ρ mem o.op:=by
 obtain⟨dst,op,J,M,I,guard⟩:=o;have ask: ∀{p:AV->Bool} {x:Operand},ρ' x=ρ x->kM ρ' p x=kM ρ p x:=λh=>by unfold kM;rw[h]
 cases op<;>simp only[Op.operands]at h<;>simp only[bJ]
 case load t a=>exact ask (h a (by simp))
 case store t a x=>exact ask (h a (by simp))
 case slice t x lo hi mx=>exact ask (h x (by simp))
 case indexAddr t x ix=>exact ask (h x (by simp))
 case call c=>
  obtain⟨K,args,ts⟩:=c;simp only[Call.operands]at h;simp only;split
  ·rename_i x H;exact ask (h x (Array.mem_append.2 (.inr (by rw[<-Array.mem_toList_iff,H];simp))))
  ·rename_i x y H;rw[ask (h x (Array.mem_append.2 (.inr (by rw[<-Array.mem_toList_iff,H];simp))))]
  ·rfl
theorem Ov{own tk:Bool}{o:Oper}{ρ ρ':Operand->Option AV}{rs:Nat}(h: ∀x∈o.op.operands,ρ' x=ρ x):Fw P own tk o ρ' mem rs=Fw P own tk o ρ mem rs:=by
 obtain⟨dst,op,K,N,J,guard⟩:=o;cases op<;>simp only[Op.operands]at h<;>simp only[Fw,Ba,Gn]
 case buildSlice t n ps=>rw[kT (λx I=>h x (by simpa using I))]
 case slice t x lo hi mx=>
  rw[h x (by simp),i9 (x:=lo) λy H=>h y (by simp[H]),i9 (x:=hi) λy H=>h y (by simp[H]),i9 (x:=mx) λy H=>h y (by simp[H])]
 case call c=>
  obtain⟨M,args,ts⟩:=c;simp only[Call.operands]at h;rw[l9 (xs:=args.toList) λx I=>h x (by simp at I⊢;exact .inr I)]
 all_goals (first|rfl|(simp_all;done))
theorem Ob{C:bM}{own tk boxed raw vars:Bool}{o:Oper}{ρ ρ':Operand->Option AV}{rs:Nat}(h: ∀x∈o.op.operands,ρ' x=ρ x):Fy P C own tk boxed raw vars o ρ' mem rs=Fy P C own tk boxed raw vars o ρ mem rs:=by
 unfold Fy;rw[I2 h,Ov h,N2 h]
end
end Go.Ab
end
section
namespace Go.Ab
variable [b3]
structure iJ where
 v:AV
 wr:List (Nat×bG)
 push:aK
 tr:Option Tr
noncomputable def iJ.app(e:iJ)(dst:Option Tmp)(st:St):St:={tmps:=k9 st.tmps dst e.v,mem:=aM st.mem e.wr++e.push}
section
variable {P:Program}
inductive iW (P:Program) (C:bM) (an:kQ) (rid:Nat) (ops:Array Oper) (o:Oper) (i rs:Nat) (st:St):iJ->Prop
 |run (out:cU) (hres:dJ o.op=true->wF st.mem rs=true) (h:Fy P C (bD rid i an.own) false (bD rid i an.boxed) (bD rid i an.raw) (bD rid i an.vars) o (bW st.tmps) st.mem rs=some out)
   (hg: ∀j want,o.guard=some (j,want)->∃d,(ops[j]?).bind (·.dst)=some d/\st.tmps[d]?=some (.lit (.bool want))):
   iW P C an rid ops o i rs st {v:=out.v,wr:=out.wr,push:=out.push,tr:=some (out.tr (dJ o.op) rs i o.op st.mem)}
 |skip (j:Nat) (want:Bool) (d:Nat) (hg:o.guard=some (j,want)) (hd:(ops[j]?).bind (·.dst)=some d)
   (h:st.tmps[d]?=some (.lit (.bool (!want)))\/∃x,st.tmps[d]?=some (.lit (.tuple x))):iW P C an rid ops o i rs st {v:= .lit undef,wr:= [],push:= [],tr:=none}
theorem Same.eq{st H:St}(h:H.mem=st.mem/\∀t:Nat,H.tmps[t]?=st.tmps[t]?):H=st:=by
 obtain⟨t1,m1⟩:=H;obtain⟨t,m⟩:=st;simp only at h;obtain⟨rfl,h⟩:=h;rw[List.ext_getElem? h]
variable {C:bM} {an:kQ} {rid:Nat} {ops:Array Oper}
theorem sE.two{o:Oper}{i rs:Nat}{st I:St}{t:Option Tr}(h:sE P C an false rid ops o i rs st I t): ∃e,iW P C an rid ops o i rs st e/\e.tr=t/\I=e.app o.dst st:=by
 cases h with
 |run out N H J U M=>
  obtain rfl:=Same.eq H;exact⟨_,.run out J U M,rfl,rfl⟩
 |skip N H j K d M O h=>
  obtain rfl:=Same.eq H;exact⟨_,.skip j K d M O h,rfl,by simp[iJ.app,aM]⟩
theorem iW.one{o:Oper}{i rs:Nat}{st:St}{e:iJ}(h:iW P C an rid ops o i rs st e):sE P C an false rid ops o i rs st (e.app o.dst st) e.tr:=by
 cases h with
 |run out I K J=>exact .run out st ⟨rfl,λ_=>rfl⟩ I K J
 |skip j H d J M h=>
  have:=sE.skip (P:=P) (C:=C) (an:=an) (tk:=false) (rid:=rid) (ops:=ops) (o:=o) (i:=i) (rs:=rs) (st:=st) st ⟨rfl,λ_=>rfl⟩ j H d J M h;simpa[iJ.app,aM]using this
def Ny(ops:Array Oper)(o:Oper)(d:Nat):Prop:=d∈o.looksAt ops
def O4(L:Nat)(all:List Tr)(e:iJ)(b:Nat):Prop:= ∃t,e.tr=some t/\(b∈(FC L all t).rd\/b∈t.wr)
def sI(S F:Nat->Prop)(st st':St):Prop:=(∀d:Nat,S d->st'.tmps[d]?=st.tmps[d]?)/\(∀b:Nat,F b->st'.mem[b]?=st.mem[b]?)
theorem IV{v:AV}{q:Nat×Nat×Nat×Nat}(h:nB v=some q):v= .ptr q.1 q.2.1 q.2.2.1 q.2.2.2:=by
 unfold nB at h;split at h
 ·cases h;rfl
 ·cases h
theorem MY{t:TypeId}{mem mem':aK}{a:AV}{out:cU}(h:iA P t mem a=some out)(Y:(nB out.v).isSome=true){b:Nat}(W:out.rd= [b])(U:(a5 mem b).isSome=true)(J:a5 mem' b=a5 mem b):iA P t mem' a=some out:=by
 unfold iA at h⊢
 cases a with
 |ptr b' g i c=>
  simp only at h⊢
  rw[bind_some]at h;obtain⟨bx,H,h⟩:=h;unfold box? at H;split at H
  ·rename_i x hx;have O:Nat.beq x.gen g=true:=by
    cases O:Nat.beq x.gen g with
    |true=>rfl
    |false=>rw[O]at H;cases H
   rw[O]at H;have K:x.row.isOwn=false:=by
    cases K:x.row.isOwn with
    |false=>rfl
    |true=>rw[K]at H;cases H
   rw[K]at H;obtain rfl:=ya (show some x=some bx from H);split at h
   ·rename_i e cs I;rw[bind_some]at h;obtain⟨ag,V,h⟩:=h;cases ag with
    |true=>
     simp only[yl]at h;rw[bind_some]at h;obtain⟨n,_,h⟩:=h;rw[aA]at h;obtain rfl:=(ya h.2)
     simp[nB]at Y
    |false=>
     simp only[yj]at h;obtain⟨v,hv,rfl⟩:=yc.1 h;obtain rfl:b'=b:=by simpa using W
     obtain⟨q,hq⟩:=Option.isSome_iff_exists.1 Y;have hc1:a5 mem b'=some (x.gen,e,cs.map nB):=by unfold a5 f7;rw[hx];simp only[I]
     rw[hc1]at J;unfold a5 at J;split at J
     ·rename_i x' hx';unfold f7 at J;split at J
      ·rename_i e' N M;obtain⟨hg',he',hl'⟩:x'.gen=x.gen/\e'=e/\N.map nB=cs.map nB:=by
        have:=ya J;simp only[Prod.mk.injEq]at this;exact this
       unfold box?;rw[hx'];simp only[hg',O,aX.isOwn,Bool.not_false,yd3,yl,ye,M,he',V,yj];have:(N.map nB)[i*e+c]?=some (some q):=by rw[hl',yc1,hv];simp[hq]
       rw[yc1]at this;obtain⟨v',hv',Z⟩:=yc.1 this;rw[hv',yh,IV Z,show v=_ from IV hq]
      ·cases J
     ·cases J
   ·rename_i k xs I;rw[aA]at h;obtain⟨_,h⟩:=h;rw[aA]at h;obtain⟨_,h⟩:=h;obtain⟨y,_,rfl⟩:=yc.1 h;simp[nB]at Y
   ·rename_i β e xs I;rw[bind_some]at h;obtain⟨y,_,h⟩:=h;obtain⟨u,_,rfl⟩:=yc.1 h;obtain rfl:b'=b:=by simpa using W
    unfold a5 f7 at U;rw[hx]at U;simp only[I]at U;cases U
   ·cases h
  ·cases H
 |el β p c=>
  simp only at h;obtain⟨u,_,rfl⟩:=yc.1 h;cases W
 |_=>cases h
theorem MO{op:Op}{mem:aK}{v:AV}{rd:List Nat}(h:Mo op mem v rd=true):(∃t a,op= .load t a)/\(nB v).isSome=true/\∃b,rd= [b]/\(a5 mem b).isSome=true:=by
 unfold Mo at h;simp only[yb]at h;obtain⟨⟨I,K⟩,H⟩:=h;refine⟨?_,?_,?_⟩
 ·unfold Kf at I;split at I
  ·exact⟨_,_,rfl⟩
  ·cases I
 ·split at K
  ·rename_i q J;rw[J];rfl
  ·cases K
 ·split at H
  ·rename_i b;refine⟨b,rfl,?_⟩;split at H
   ·rename_i q J;rw[J];rfl
   ·cases H
  ·cases H
theorem N8{L:Nat}{all:List Tr}{t:Tr}:(FC L all t).rd=t.rd\/(t.rc=true/\∃b,t.rd= [b]/\JZ L all b=true):=by
 unfold FC;cases I:(t.rc&&(match t.rd with| [b]=>JZ L all b|_=>false))with
 |false=>left;rfl
 |true=>
  right;simp only[yb]at I;refine⟨I.1,?_⟩;have H:=I.2;split at H
  ·rename_i b J;exact⟨b,J,H⟩
  ·cases H
theorem fR{L:Nat}{all:List Tr}{t:Tr}:(FC L all t).i=t.i/\(FC L all t).wr=t.wr/\(FC L all t).push=t.push:=by
 unfold FC;cases(t.rc&&(match t.rd with| [b]=>JZ L all b|_=>false))<;>exact⟨rfl,rfl,rfl⟩
theorem iW.agree{L:Nat}{all:List Tr}{o:Oper}{i rs:Nat}{st J:St}{e:iJ}(h:iW P C an rid ops o i rs st e)(hA:sI (Ny ops o) (O4 L all e) st J)(hl:j9 o=true->J.mem.length=st.mem.length)
  (hK: ∀t b,e.tr=some t->JZ L all b=true->t.rc=true->t.rd= [b]->a5 J.mem b=a5 st.mem b): ∃e',iW P C an rid ops o i rs J e'/\e'.v=e.v/\e'.wr=e.wr/\e'.push=e.push:=by
 have M: ∀{j:Nat} {I:Bool} {d:Nat},o.guard=some (j,I)->(ops[j]?).bind (·.dst)=some d->J.tmps[d]?=st.tmps[d]?:=by
  intro j I d Z Y;refine hA.1 d ?_;unfold Ny Oper.looksAt;rw[Z];refine yr1 _ ?_;simp[Y]
 cases h with
 |run out hres H Z=>
  refine⟨_,.run out (λhm=>?_) ?_ (λj I h=>?_),rfl,rfl,rfl⟩
  ·have:=hres hm;unfold wF at this⊢
   rw[hA.2 rs ⟨_,rfl,.inr (by simp[cU.tr,hm])⟩];exact this
  ·have h1:Fy P C (bD rid i an.own) false (bD rid i an.boxed) (bD rid i an.raw) (bD rid i an.vars) o (bW st.tmps) J.mem rs=some out:=by
    rcases N8 (L:=L) (all:=all) (t:=out.tr (dJ o.op) rs i o.op st.mem)with hrd|⟨hrc,b,N,hcst⟩
    ·exact OQ (mem':=J.mem) hl H (λb N=>hA.2 b ⟨_,rfl,.inl (by rw[hrd];simpa[cU.tr]using N)⟩)
    ·obtain⟨⟨t,a,V⟩,hp,b',hb',K⟩:=MO (show Mo o.op st.mem out.v out.rd=true from hrc);have N:out.rd= [b]:=N;obtain rfl:b=b':=by rw[N]at hb';simpa using hb'
     have hke:=hK _ b rfl hcst hrc N;have U: ∀{m:aK},(a5 m b).isSome=true->sA m b=false:=by
      intro m hm;unfold a5 at hm;unfold sA;split at hm
      ·rename_i x W;unfold f7 at hm;split at hm
       ·rename_i e cs hr;simp only[hr];rfl
       ·cases hm
      ·cases hm
     have hno:bJ (bD rid i an.own) (bW st.tmps) st.mem o.op=false/\bJ (bD rid i an.own) (bW st.tmps) J.mem o.op=false:=by
      rw[V];simp only[bJ,kM];cases W:bW st.tmps a with
      |none=>exact⟨rfl,rfl⟩
      |some x=>
       cases x with
       |ptr b2 g2 i2 c2=>
        have hb2:b2=b:=by
         unfold Fy at H;cases how:bJ (bD rid i an.own) (bW st.tmps) st.mem o.op with
         |false=>
          rw[how]at H;simp only[yj]at H;unfold Lg at H;rw[V]at H;simp only at H;rw[bind_some]at H;obtain⟨x,O,H⟩:=H;rw[W]at O;obtain rfl:=ya O;have:=IE H;rw[N]at this;simpa using this
         |true=>
          rw[how]at H;simp only[yl]at H;unfold Fw at H;rw[V]at H;simp only at H;rw[bind_some]at H;obtain⟨x,O,H⟩:=H;rw[W]at O;obtain rfl:=ya O;have:=(IC H (λ_ _=>rfl)).2 b2 g2 i2 c2 rfl;rw[N]at this;simpa using this
        subst hb2;exact⟨U K,U (by rw[hke];exact K)⟩
       |_=>exact⟨rfl,rfl⟩
     unfold Fy at H⊢
     rw[hno.1]at H;rw[hno.2];simp only[yj]at H⊢
     unfold Lg at H⊢
     rw[V]at H⊢
     simp only at H⊢
     rw[bind_some]at H⊢
     obtain⟨x,W,H⟩:=H;exact⟨x,W,MY H hp N K hke⟩
   rw[<-h1];refine Ob λx W=>?_;cases x with
   |tmp t=>
    simp only[bW,Cg,a7];rw[hA.1 t];unfold Ny Oper.looksAt;exact yq1 _ (List.mem_filterMap.2 ⟨.tmp t,by simpa using W,rfl⟩)
   |const v=>rfl
   |func f=>rfl
   |global g=>rfl
  ·obtain⟨d,Y,N⟩:=Z j I h;exact⟨d,Y,by rw[M h Y];exact N⟩
 |skip j I d Z Y h=>
  refine⟨_,.skip j I d Z Y ?_,rfl,rfl,rfl⟩;rw[M Z Y];exact h
noncomputable def b9(D:Nat->Bool):Nat->List (Oper×iJ)->St->St
 |_,[],st=>st
 |i,(o,e)::r,st=>b9 D (i+1) r (bif D i then e.app o.dst st else st)
theorem mO{D D':Nat->Bool}: ∀{l:List (Oper×iJ)} {i:Nat} {st:St},(∀k,i≤k->k<i+l.length->D k=D' k)->b9 D i l st=b9 D' i l st
 | [],i,st,_=>rfl
 |(o,e)::r,i,st,h=>by
  simp only[b9];rw[h i (ya1 _) (by simp)];exact mO λk h1 H=>h k (by omega) (by simp at H⊢;omega)
inductive BK (P:Program) (C:bM) (an:kQ) (rid:Nat) (ops:Array Oper):Nat->Nat->St->List (Oper×iJ)->Prop
 |nil (i rs:Nat) (st:St):BK P C an rid ops i rs st []
 |cons (o:Oper) (e:iJ) (r:List (Oper×iJ)) (i rs:Nat) (st:St) (h:iW P C an rid ops o i rs st e) (hr:BK P C an rid ops (i+1) (bif dJ o.op then rs+1 else rs) (e.app o.dst st) r):
   BK P C an rid ops i rs st ((o,e)::r)
variable {R:Type}
theorem De{k:St->List Tr->Option R}{r:R}: ∀{rest:List Oper} {i rs:Nat} {st:St} {tr:List Tr},qI P C an false rid (ops.toList.map (·.dst)) rest i rs st tr k=some r->
  ∃l,l.map (·.1)=rest/\BK P C an rid ops i rs st l/\k (b9 (λ_=>true) i l st) ((l.filterMap (·.2.tr)).reverse++tr)=some r
 | [],i,rs,st,tr,h=>⟨[],rfl,.nil i rs st,by simpa[qI,b9]using h⟩
 |o::rest,i,rs,st,tr,h=>by
  obtain⟨I,t,H,J⟩:=Gl h;obtain⟨e,K,rfl,rfl⟩:=H.two;obtain⟨l,M,O,N⟩:=De J;refine⟨(o,e)::l,by simp[M],.cons o e l i rs st K O,?_⟩;simp only[b9,yl];have:((((o,e)::l).filterMap (·.2.tr)).reverse++tr)=(l.filterMap (·.2.tr)).reverse++(e.tr.toList++tr):=by
   cases ht:e.tr with
   |none=>simp[List.filterMap_cons,ht]
   |some t=>simp[List.filterMap_cons,ht]
  rw[this];exact N
theorem yQ{D:Nat->Bool}: ∀{l:List (Oper×iJ)} {i:Nat} {st:St},(∀k,i≤k->D k=false)->b9 D i l st=st
 | [],i,st,_=>rfl
 |(o,e)::r,i,st,h=>by
  simp only[b9,h i (ya1 _),yj];exact yQ λk hk=>h k (by omega)
theorem BK.get: ∀{l:List (Oper×iJ)} {i rs:Nat} {st:St} {j:Nat} {o:Oper} {e:iJ},BK P C an rid ops i rs st l->l[j]?=some (o,e)->∃H,iW P C an rid ops o (i+j) H (b9 (λk=>Nat.blt k (i+j)) i l st) e
 | [],i,rs,st,j,o,e,_,h=>by simp at h
 |(N,e')::l,i,rs,st,0,o,e,I,h=>by
  cases I with
  |cons _ _ _ _ _ _ K hr=>
   simp at h;obtain⟨rfl,rfl⟩:=h;refine⟨rs,?_⟩;rw[yQ (λk hk=>by cases M:Nat.blt k (i+0)with|false=>rfl|true=>simp[Nat.blt]at M;omega)];exact K
 |(N,e')::l,i,rs,st,j+1,o,e,I,h=>by
  cases I with
  |cons _ _ _ _ _ _ K hr=>
   obtain⟨H,J⟩:=hr.get (j:=j) (by simpa using h);refine⟨H,?_⟩;rw[show i+1+j=i+(j+1) by omega]at J;simp only[b9];have:Nat.blt i (i+(j+1))=true:=by simp[Nat.blt]
   rw[this];exact J
theorem Mc{m H:aK}{b:Nat}(h:H[b]?=m[b]?): ∀{wr:List (Nat×bG)},(aM H wr)[b]?=(aM m wr)[b]?:=by
 intro wr
 induction wr generalizing m H with
 |nil=>exact h
 |cons q r M=>
  obtain⟨c,x⟩:=q;simp only[aM];refine M ?_;rw[List.getElem?_set,List.getElem?_set];by_cases K:c=b
  ·subst K;simp only[if_true];by_cases J:c<m.length
   ·have:c<H.length:=by
     rcases yd2 c H.length with I|I
     ·exact I
     ·rw[yb1 I,yf J]at h;cases h
    rw[if_pos J,if_pos this]
   ·have: ¬c<H.length:=by
     intro I;rw[yf I,yb1 (by omega)]at h;cases h
    rw[if_neg J,if_neg this]
  ·rw[if_neg K,if_neg K];exact h
theorem JQ{m:aK}{b:Nat}: ∀{wr:List (Nat×bG)},(∀q∈wr,q.1≠b)->(aM m wr)[b]?=m[b]?:=by
 intro wr
 induction wr generalizing m with
 |nil=>intro _;rfl
 |cons q r H=>
  obtain⟨c,x⟩:=q;intro h;simp only[aM];rw[H (λq I=>h q (yg _ I)),yp (h (c,x) (ym ..))]
theorem JN{m:aK}{c:Nat}{x:Option bG}: ∀{wr:List (Nat×bG)},(∀q∈wr,q.1≠c)->aM (m.set c x) wr=(aM m wr).set c x:=by
 intro wr
 induction wr generalizing m with
 |nil=>intro _;rfl
 |cons q r H=>
  obtain⟨d,y⟩:=q;intro h;simp only[aM];rw[List.set_comm _ _ (λe=>h (d,y) (ym ..) e.symm),H (λq I=>h q (yg _ I))]
theorem H2{m:aK}{a:List (Nat×bG)}: ∀{b:List (Nat×bG)},(∀q∈b,∀I∈a,q.1≠I.1)->aM (aM m a) b=aM (aM m b) a:=by
 intro b
 induction b generalizing m with
 |nil=>intro _;rfl
 |cons q r J=>
  obtain⟨c,x⟩:=q;intro h;simp only[aM];rw[<-J (λq K=>h q (yg _ K)),JN (λI H e=>h (c,x) (ym ..) I H e.symm)]
theorem y7{m p:aK}: ∀{wr:List (Nat×bG)},(∀q∈wr,q.1<m.length)->aM (m++p) wr=aM m wr++p:=by
 intro wr
 induction wr generalizing m with
 |nil=>intro _;rfl
 |cons q r H=>
  obtain⟨c,x⟩:=q;intro h;simp only[aM];rw[List.set_append_left _ _ (h (c,x) (ym ..)),H (λq I=>by simpa using h q (yg _ I))]
structure Og (L:Nat) (d1 d2:Option Tmp) (e1 e2:iJ):Prop where
 dst: ∀d,d1=some d->d2≠some d
 wr: ∀q∈e1.wr,∀q'∈e2.wr,q.1≠q'.1
 push:e1.push= []\/e2.push= []
 low1:e1.push≠ []->∀q∈e2.wr,q.1<L
 low2:e2.push≠ []->∀q∈e1.wr,q.1<L
theorem LX{tmps:List AV}{I H:Option Tmp}{J K:AV}(h: ∀d,I=some d->H≠some d):k9 (k9 tmps I J) H K=k9 (k9 tmps H K) I J:=by
 cases I with
 |none=>rfl
 |some a=>
  cases H with
  |none=>rfl
  |some b=>simp only[k9,dE];rw[List.set_comm _ _ (λe=>h a rfl (by rw[e]))]
theorem iJ.comm{L:Nat}{W V:Option Tmp}{J I:iJ}{st:St}(hm:Og L W V J I)(Y:L≤st.mem.length):I.app V (J.app W st)=J.app W (I.app V st):=by
 have M:aM (aM st.mem J.wr++J.push) I.wr++I.push=aM (aM st.mem I.wr++I.push) J.wr++J.push:=by
  have H:=H2 (m:=st.mem) (a:=J.wr) (b:=I.wr) (λq K Z U e=>hm.wr Z U q K e.symm);by_cases O:J.push= []
  ·by_cases N:I.push= []
   ·rw[O,N];simp only[yg1];exact H
   ·rw[O];simp only[yg1];rw[y7 (m:=aM st.mem I.wr) (λq K=>by rw[bQ];exact yy1 (hm.low2 N q K) Y),H]
  ·have N:I.push= []:=hm.push.resolve_left O;rw[N];simp only[yg1];rw[y7 (m:=aM st.mem J.wr) (λq K=>by rw[bQ];exact yy1 (hm.low1 O q K) Y),H]
 simp only[iJ.app,M,LX hm.dst]
end
end Go.Ab
end
section
namespace Go.Ab
variable [b3]
def A3(ops:Array Oper)(D:Nat->Bool):Prop:= ∀(j:Nat) (o:Oper),ops[j]?=some o->∀e∈o.after,Region.binds .any e=true->D j=true->D e.on=true
theorem x6{acc:List Nat}: ∀{N:List Edge} {i:Nat},(AJ acc N).testBit i=true->∃e∈N,Region.binds .any e=true/\(i=e.on\/(acc.getD e.on 0).testBit i=true)
 | [],i,h=>by simp[AJ]at h
 |e::r,i,h=>by
  simp only[AJ]at h;cases H:Region.binds .any e with
  |true=>
   rw[H]at h;simp only[yl,Nat.testBit_or,yu1]at h;rcases h with (h|h)|h
   ·refine⟨e,ym ..,H,.inl ?_⟩;rw[Nat.testBit_two_pow]at h;exact(of_decide_eq_true h).symm
   ·exact⟨e,ym ..,H,.inr h⟩
   ·obtain⟨I,J,M,K⟩:=x6 h;exact⟨I,yg _ J,M,K⟩
  |false=>
   rw[H]at h;simp only[yj]at h;obtain⟨I,J,M,K⟩:=x6 h;exact⟨I,yg _ J,M,K⟩
theorem qU{i:Nat}: ∀{K:List Edge},zN i K=true->∀e∈K,Region.binds .any e=true->e.on<i
 | [],_,e,H,_=>by simp at H
 |x::r,h,e,H,J=>by
  simp only[zN,yb,yu1,yq]at h;rcases yl1.1 H with rfl|H
  ·rcases h.1 with I|I
   ·rw[J]at I;cases I
   ·simp[Nat.blt]at I;omega
  ·exact qU h.2 e H J
theorem nL: ∀{l:List Oper} {i j:Nat} {o:Oper},iC l i=true->l[j]?=some o->zN (i+j) o.after.toList=true
 | [],i,j,o,_,h=>by simp at h
 |x::r,i,0,o,h,H=>by
  simp only[iC,yb]at h;simp at H;subst H;exact h.1
 |x::r,i,j+1,o,h,H=>by
  simp only[iC,yb]at h;have:=nL (j:=j) h.2 (by simpa using H);rw[show i+(j+1)=i+1+j by omega];exact this
theorem JA{ops:Array Oper}(hE:iC ops.toList 0=true): ∀{l:List Oper} {acc:List Nat},ops.toList.drop acc.length=l->acc.length≤ops.size->
  (∀j i,j<acc.length->(acc.getD j 0).testBit i=true->i<j/\∀D,A3 ops D->D j=true->D i=true)->
  ∀j i,((q9 l acc).getD j 0).testBit i=true->i<j/\j<ops.size/\∀D,A3 ops D->D j=true->D i=true
 | [],acc,J,V,h=>by
  intro j i H;simp only[q9]at H;by_cases O:j<acc.length
  ·exact⟨(h j i O H).1,by omega,(h j i O H).2⟩
  ·rw[yi,yb1 (by omega)]at H;simp at H
 |o::r,acc,J,V,h=>by
  simp only[q9];have Y:ops[acc.length]?=some o:=by
   have:(ops.toList.drop acc.length)[0]?=some o:=by rw[J];rfl
   rw[yz,yk1,yh1]at this;exact this
  have hlt:acc.length<ops.size:=(yn2.1 Y).1;refine JA hE (l:=r) (by rw[ym1,<-List.drop_drop,J];rfl) (by simp;omega) λj i O H=>?_;by_cases N:j<acc.length
  ·rw[yi,yn N,<-yi]at H;exact h j i N H
  ·have W:j=acc.length:=by simp at O;omega
   subst W;rw[yi,yu (ya1 _)]at H;simp only[Nat.sub_self,yo2,Option.getD_some]at H;obtain⟨e,Z,I,U⟩:=x6 H;have K:=qU (by have:=nL (j:=acc.length) hE (by rw[yh1];exact Y);rwa[yy]at this) e Z I;have M: ∀D,A3 ops D->D acc.length=true->D e.on=true:=λD hD J=>hD acc.length o Y e (by simpa using Z) I J;rcases U with rfl|U
   ·exact⟨K,M⟩
   ·obtain⟨h1,h2⟩:=h e.on i K U;exact⟨by omega,λD hD J=>h2 D hD (M D hD J)⟩
theorem nZ{ops:Array Oper}(hE:iC ops.toList 0=true){j i:Nat}(h:((q9 ops.toList []).getD j 0).testBit i=true):i<j/\∀D,A3 ops D->D j=true->D i=true:=by
 obtain⟨I,_,H⟩:=JA hE (l:=ops.toList) (acc:= []) (by simp) (by simp) (λj i J _=>by simp at J) j i h;exact⟨I,H⟩
theorem CY: ∀{n a j:Nat},a≤j->j<a+n->j∈nS a n
 |0,a,j,I,H=>by omega
 |n+1,a,j,I,H=>by
  simp only[nS];rcases yd2 a j with h|h
  ·exact yg _ (CY (by omega) (by omega))
  ·obtain rfl:j=a:=by omega
   exact ym ..
theorem zE{ops:Array Oper}{bs:List Nat}{i:Nat}: ∀{l:List Nat},zQ ops bs i l=true->∀j∈l,cN bs i j=true\/zJ ops i j=true
 | [],_,j,H=>by simp at H
 |x::r,h,j,H=>by
  simp only[zQ,yb,yu1]at h;rcases yl1.1 H with rfl|H
  ·exact h.1
  ·exact zE h.2 j H
theorem pB{ops:Array Oper}{bs:List Nat}: ∀{n a i j:Nat},Ac ops bs (nS a n)=true->a≤i->i<j->j<a+n->cN bs i j=true\/zJ ops i j=true
 |0,a,i,j,_,J,H,I=>by omega
 |n+1,a,i,j,h,J,H,I=>by
  simp only[nS,Ac,yb]at h;rcases yd2 a i with M|K
  ·exact pB h.2 (by omega) H (by omega)
  ·obtain rfl:i=a:=by omega
   exact zE h.1 j (CY (by omega) (by omega))
theorem BQ{bs:List Nat}{i:Nat}: ∀{l:List Oper} {s j:Nat} {o:Oper},sU bs i l s=true->l[j]?=some o->i=s+j\/cN bs i (s+j)=true\/j9 o=false
 | [],s,j,o,_,h=>by simp at h
 |x::r,s,0,o,h,H=>by
  simp only[sU,yb,yu1,yq]at h;simp at H;subst H;rcases h.1 with (h|h)|h
  ·exact .inl (bI.1 h)
  ·exact .inr (.inl h)
  ·exact .inr (.inr h)
 |x::r,s,j+1,o,h,H=>by
  simp only[sU,yb]at h;have:=BQ (j:=j) h.2 (by simpa using H);rw[show s+(j+1)=s+1+j by omega];exact this
theorem Eh{ops:Array Oper}{bs:List Nat}: ∀{l:List Tr},Gz ops bs l=true->∀a∈l,a.push=true->sU bs a.i ops.toList 0=true
 | [],_,a,H,_=>by simp at H
 |x::r,h,a,H,J=>by
  simp only[Gz,yb,yu1,yq]at h;rcases yl1.1 H with rfl|H
  ·rcases h.1 with I|I
   ·rw[J]at I;cases I
   ·exact I
  ·exact Eh h.2 a H J
structure FL (bs:List Nat) (L:Nat) (a b:Tr):Prop where
 push:cN bs a.i b.i=false->a.push=true->b.push=true->False
 far:cN bs a.i b.i=false->(∀x∈a.wr,x∉b.rd)/\(∀x∈a.rd,x∉b.wr)/\(∀x∈a.wr,x∉b.wr)/\(a.push=true->(∀x∈b.rd,x<L)/\∀x∈b.wr,x<L)/\(b.push=true->(∀x∈a.rd,x<L)/\∀x∈a.wr,x<L)
theorem oD{m:Nat}: ∀{l:List Nat},e6 m l=true->∀b∈l,b<m
 | [],_,b,h=>by simp at h
 |x::r,h,b,H=>by
  simp only[e6,yb]at h;rcases yl1.1 H with rfl|H
  ·have:=h.1;simp[Nat.blt]at this;omega
  ·exact oD h.2 b H
theorem Ib{bs:List Nat}{L:Nat}{a:Tr}: ∀{l:List Tr},NX bs L a l=true->∀b∈l,FL bs L a b
 | [],_,b,h=>by simp at h
 |x::r,h,b,N=>by
  simp only[NX,yb]at h;rcases yl1.1 N with rfl|N
  ·refine⟨λO K J=>by have:=h.1;rw[O,K,J]at this;simp at this,λO=>?_⟩;have:=h.1;rw[O]at this;simp only[Bool.false_or,yb,yu1,yq]at this;obtain⟨⟨⟨⟨⟨_,K⟩,J⟩,U⟩,H⟩,I⟩:=this;refine⟨sO K,sO J,sO U,λM=>?_,λM=>?_⟩
   ·rcases H with H|H
    ·rw[M]at H;cases H
    ·exact⟨oD H.1,oD H.2⟩
   ·rcases I with I|I
    ·rw[M]at I;cases I
    ·exact⟨oD I.1,oD I.2⟩
  ·exact Ib h.2 b N
theorem qS{bs:List Nat}{L:Nat}: ∀{l:List Tr},LB bs L l=true->l.Pairwise (FL bs L)
 | [],_=> .nil
 |a::r,h=>by
  simp only[LB,yb]at h;exact .cons (Ib h.1) (qS h.2)
theorem lE{bs:List Nat}{i j:Nat}:cN bs i j=cN bs j i:=by unfold cN;rw[Bool.or_comm]
theorem FL.symm{bs:List Nat}{L:Nat}{a b:Tr}(h:FL bs L a b):FL bs L b a:=
 ⟨λM K J=>h.push (by rw[lE];exact M) J K,λM=>by
  obtain⟨K,J,O,N,U⟩:=h.far (by rw[lE];exact M);exact⟨λx H I=>J x I H,λx H I=>K x I H,λx H I=>O x I H,U,N⟩⟩
section
variable {P:Program} {C:bM} {an:kQ} {rid:Nat} {ops:Array Oper}
theorem iW.facts{o:Oper}{i rs:Nat}{st:St}{e:iJ}(h:iW P C an rid ops o i rs st e):
  (∀q∈e.wr,∃t,e.tr=some t/\q.1∈t.wr)/\(e.push≠ []->∃t,e.tr=some t/\t.push=true)/\(∀t,e.tr=some t->t.i=i):=by
 cases h with
 |run out J ho M=>
  refine⟨λq H=>⟨_,rfl,?_⟩,λI=>⟨_,rfl,?_⟩,λt ht=>?_⟩
  ·simp only[cU.tr];cases dJ o.op with
   |true=>simp only[yl];exact yg _ (yq2.2 ⟨q,H,rfl⟩)
   |false=>simp only[yj];exact yq2.2 ⟨q,H,rfl⟩
  ·show(match out.push with| []=>false|_=>true)=true
   split
   ·rename_i N;exact absurd N I
   ·rfl
  ·cases ht;rfl
 |skip j K d M hd h=>exact⟨λq H=>by simp at H,λI=>absurd rfl I,λt ht=>by cases ht⟩
structure Cx (S F:Nat->Prop) (L:Nat) (o:Oper) (e:iJ):Prop where
 dst: ∀d,o.dst=some d->¬S d
 wr: ∀q∈e.wr,¬F q.1
 push:e.push≠ []->∀b,F b->b<L
theorem jS(e:iJ)(d:Option Tmp)(st:St):(e.app d st).mem.length=st.mem.length+e.push.length:=by simp[iJ.app,bQ]
theorem sI.symm{S F:Nat->Prop}{st H:St}(h:sI S F st H):sI S F H st:=⟨λd J=>(h.1 d J).symm,λb I=>(h.2 b I).symm⟩
theorem F3{S F:Nat->Prop}{L:Nat}{o:Oper}{e:iJ}{st H:St}(h:sI S F st H)(hn:Cx S F L o e)(O:L≤H.mem.length):sI S F st (e.app o.dst H):=by
 refine⟨λd N=>?_,λb K=>?_⟩
 ·rw[<-h.1 d N];simp only[iJ.app];cases J:o.dst with
  |none=>rfl
  |some t=>
   simp only[k9,dE];exact yp (λe=>hn.dst t J (by rw[e];exact N))
 ·rw[<-h.2 b K];simp only[iJ.app];have I:(aM H.mem e.wr)[b]?=H.mem[b]?:=JQ λq U e=>hn.wr q U (by rw[e];exact K);by_cases M:e.push= []
  ·rw[M,yg1];exact I
  ·rw[yn (by rw[bQ];exact yy1 (hn.push M b K) O)];exact I
theorem Kq{S F:Nat->Prop}{d:Option Tmp}{e:iJ}{st H:St}(h:sI S F st H)(I:e.push≠ []->H.mem.length=st.mem.length):sI S F (e.app d st) (e.app d H):=by
 refine⟨λt ht=>?_,λb O=>?_⟩
 ·simp only[iJ.app];cases d with
  |none=>exact h.1 t ht
  |some d=>
   simp only[k9,dE];have:=h.1 t ht;rw[List.getElem?_set,List.getElem?_set];by_cases M:d=t
   ·subst M;simp only[if_true];by_cases I:d<st.tmps.length
    ·have J:d<H.tmps.length:=by
      rcases yd2 d H.tmps.length with J|J
      ·exact J
      ·rw[yb1 J,yf I]at this;cases this
     rw[if_pos I,if_pos J]
    ·have J: ¬d<H.tmps.length:=by
      intro J;rw[yf J,yb1 (Nat.le_of_not_lt I)]at this;cases this
     rw[if_neg I,if_neg J]
   ·rw[if_neg M,if_neg M];exact this
 ·simp only[iJ.app];have hs:(aM H.mem e.wr)[b]?=(aM st.mem e.wr)[b]?:=Mc (h.2 b O);by_cases N:e.push= []
  ·rw[N,yg1,yg1];exact hs
  ·have I:=I N;by_cases K:b<st.mem.length
   ·rw[yn (by rw[bQ,I];exact K),yn (by rw[bQ];exact K)];exact hs
   ·rw[yu (by rw[bQ,I];omega),yu (by rw[bQ];omega),bQ,bQ,I]
def AS(D:Nat->Bool)(i:Nat)(l:List (Oper×iJ)):Prop:= ∀(k k':Nat) (q q':Oper×iJ),k<k'->l[k]?=some q->l[k']?=some q'->q.2.push≠ []->q'.2.push≠ []->D (i+k')=true->D (i+k)=true
theorem AS.tail{D:Nat->Bool}{i:Nat}{q:Oper×iJ}{l:List (Oper×iJ)}(h:AS D i (q::l)):AS D (i+1) l:=λk I p M hk N H K J O=>by
 have:=h (k+1) (I+1) p M (by omega) (by simpa using N) (by simpa using H) K J (by rw[show i+(I+1)=i+1+I by omega];exact O);rwa[show i+(k+1)=i+1+k by omega]at this
theorem l7{S F:Nat->Prop}{L:Nat}{D D':Nat->Bool}: ∀{l:List (Oper×iJ)} {i:Nat} {st H:St},L≤st.mem.length->L≤H.mem.length->
  (st.mem.length=H.mem.length\/∀(k:Nat) (q:Oper×iJ),l[k]?=some q->q.2.push≠ []->D (i+k)=false\/D' (i+k)=false)->AS D i l->AS D' i l->
  (∀k o e,l[k]?=some (o,e)->D (i+k)≠D' (i+k)->Cx S F L o e)->sI S F st H->sI S F (b9 D i l st) (b9 D' i l H)
 | [],i,st,H,_,_,_,_,_,_,h=>h
 |(o,e)::r,i,st,H,hl,K,W,hc,M,hn,h=>by
  simp only[b9];have V: ∀k o' e',r[k]?=some (o',e')->D (i+1+k)≠D' (i+1+k)->Cx S F L o' e':=λk o' e' O hne=>hn (k+1) o' e' (by simpa using O) (by rw[show i+(k+1)=i+1+k by omega];exact hne);have up: ∀{s:St},L≤s.mem.length->L≤(e.app o.dst s).mem.length:=λh=>by rw[jS];omega
  have Y:(∀(k:Nat) (q:Oper×iJ),((o,e)::r)[k]?=some q->q.2.push≠ []->D (i+k)=false\/D' (i+k)=false)->∀(k:Nat) (q:Oper×iJ),r[k]?=some q->q.2.push≠ []->D (i+1+k)=false\/D' (i+1+k)=false:=by
   intro hh k q O J;have:=hh (k+1) q (by simpa using O) J;rwa[show i+(k+1)=i+1+k by omega]at this
  have later:D i=false->e.push≠ []->∀(k:Nat) (q:Oper×iJ),r[k]?=some q->q.2.push≠ []->D (i+1+k)=false:=by
   intro hd J k q O I;cases hdk:D (i+1+k)with
   |false=>rfl
   |true=>
    have:=hc 0 (k+1) (o,e) q (by omega) rfl (by simpa using O) J I (by rw[show i+(k+1)=i+1+k by omega];exact hdk);rw[yk1,hd]at this;cases this
  have U:D' i=false->e.push≠ []->∀(k:Nat) (q:Oper×iJ),r[k]?=some q->q.2.push≠ []->D' (i+1+k)=false:=by
   intro hd J k q O I;cases hdk:D' (i+1+k)with
   |false=>rfl
   |true=>
    have:=M 0 (k+1) (o,e) q (by omega) rfl (by simpa using O) J I (by rw[show i+(k+1)=i+1+k by omega];exact hdk);rw[yk1,hd]at this;cases this
  cases hD:D i with
  |true=>
   cases N:D' i with
   |true=>
    have hlen:e.push≠ []->H.mem.length=st.mem.length:=by
     intro J;rcases W with W|W
     ·exact W.symm
     ·rcases W 0 (o,e) rfl J with h|h
      ·rw[yk1,hD]at h;cases h
      ·rw[yk1,N]at h;cases h
    refine l7 (up hl) (up K) (W.imp (λh=>?_) Y) hc.tail M.tail V (Kq h hlen);simp only[yl,jS,h]
   |false=>
    have Z:=hn 0 o e rfl (by rw[yk1,hD,N];simp);refine l7 (up hl) K ?_ hc.tail M.tail V (F3 h.symm Z hl).symm;by_cases J:e.push= []
    ·refine W.imp (λh=>?_) Y;simp only[yl,yj,jS,J,List.length_nil,yk1,h]
    ·exact .inr λk q O I=> .inr (U N J k q O I)
  |false=>
   cases N:D' i with
   |true=>
    have Z:=hn 0 o e rfl (by rw[yk1,hD,N];simp);refine l7 hl (up K) ?_ hc.tail M.tail V (F3 h Z K);by_cases J:e.push= []
    ·refine W.imp (λh=>?_) Y;simp only[yl,yj,jS,J,List.length_nil,yk1,h]
    ·exact .inr λk q O I=> .inl (later hD J k q O I)
   |false=>exact l7 hl K (W.imp id Y) hc.tail M.tail V h
theorem KT{D:Nat->Bool}: ∀{l:List (Oper×iJ)} {i:Nat} {st:St},st.mem.length≤(b9 D i l st).mem.length
 | [],i,st=>ya1 _
 |(o,e)::r,i,st=>by
  simp only[b9];refine yc2 ?_ (KT (l:=r));cases D i with
  |true=>simp only[yl,jS];omega
  |false=>exact ya1 _
theorem I0{D D':Nat->Bool}: ∀{l:List (Oper×iJ)} {i:Nat} {st H:St},H.mem.length=st.mem.length->(∀k o e,l[k]?=some (o,e)->e.push≠ []->D (i+k)=D' (i+k))->(b9 D' i l H).mem.length=(b9 D i l st).mem.length
 | [],i,st,H,h,_=>h
 |(o,e)::r,i,st,H,h,hn=>by
  simp only[b9];refine I0 ?_ (λk M J K I=>by have:=hn (k+1) M J (by simpa using K) I;rwa[show i+(k+1)=i+1+k by omega]at this);by_cases I:e.push= []
  ·cases D i<;>cases D' i<;>simp only[yl,yj,jS,I,List.length_nil,yk1]<;>exact h
  ·have:=hn 0 o e rfl I;rw[yk1]at this;rw[this];cases D' i<;>simp only[yl,yj,jS,h]
theorem oY{D:Nat->Bool}: ∀{a b:List (Oper×iJ)} {i:Nat} {st:St},b9 D i (a++b) st=b9 D (i+a.length) b (b9 D i a st)
 | [],b,i,st=>rfl
 |(o,e)::a,b,i,st=>by
  simp only[yt2,b9,ym2];rw[oY,show i+1+a.length=i+(a.length+1) by omega]
theorem Fm{L:Nat}{D:Nat->Bool}{e:iJ}{d:Option Tmp}: ∀{l:List (Oper×iJ)} {i:Nat} {st:St},L≤st.mem.length->
  (∀k M J,l[k]?=some (M,J)->D (i+k)=true->Og L d M.dst e J)->b9 D i l (e.app d st)=e.app d (b9 D i l st)
 | [],i,st,_,_=>rfl
 |(M,J)::r,i,st,O,hm=>by
  simp only[b9];have I: ∀k K N,r[k]?=some (K,N)->D (i+1+k)=true->Og L d K.dst e N:=λk K N U V=>hm (k+1) K N (by simpa using U) (by rw[show i+(k+1)=i+1+k by omega];exact V);cases hD:D i with
  |true=>
   simp only[yl];have H:=hm 0 M J rfl (by rw[yk1];exact hD);rw[iJ.comm H O];exact Fm (L:=L) (by rw[jS];omega) I
  |false=>
   simp only[yj];exact Fm (L:=L) O I
end
end Go.Ab
end
