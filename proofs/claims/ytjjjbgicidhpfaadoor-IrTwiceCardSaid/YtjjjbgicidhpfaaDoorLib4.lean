/- The evaluator. -/
import Derived.Test.YtjjjbgicidhpfaaDoorLib3
import Derived.ScopeJumps
set_option linter.unusedVariables false
set_option linter.unusedSectionVars false
set_option linter.unusedSimpArgs false
section
namespace Go.Ab
variable [cF]
def l6(f:kY)(mem:aK)(a:Nat)(x:bK):bK:=
 {gen:=(match o8 mem a with|some h=>h+x.gen|none=>0),frz:=x.frz,row:=x.row.ren f}
theorem bY: ∀{wr:List (Nat×bK)} {mem:aK},(aN mem wr).length=mem.length
 | [],mem=>rfl
 |(b,x)::r,mem=>by rw[aN,bY];simp
theorem oD{f:kY}{mem:aK}: ∀{ids:List Nat} {q H:aK} {b:Nat},(∀(j:Nat) (y:bK),ids[j]?=some b->q[j]?=some (some y)->False)->(aN H (bI f mem ids q))[b]?=H[b]?
 | [],q,H,b,h=>by simp[bI,aN]
 |a::ids,[],H,b,h=>by simp[bI,aN]
 |a::ids,none::q,H,b,h=>by
  simp only[bI];exact oD (λj y J K=>h (j+1) y (by simpa using J) (by simpa using K))
 |a::ids,some x::q,H,b,h=>by
  simp only[bI,aN];rw[oD (ids:=ids) (q:=q) (λj y J K=>h (j+1) y (by simpa using J) (by simpa using K))];rw[yo (λe=>h 0 x (by simp[e]) (by simp))]
theorem v6{f:kY}{mem:aK}: ∀{ids:List Nat} {q H:aK} {b j:Nat} {y:bK},dY ids=true->ids[j]?=some b->q[j]?=some (some y)->b<H.length->
  (aN H (bI f mem ids q))[b]?=some (some (l6 f mem b y))
 | [],q,H,b,j,y,_,h,_,_=>by simp at h
 |a::ids,[],H,b,j,y,_,_,h,_=>by simp at h
 |a::ids,none::q,H,b,0,y,_,_,h,_=>by simp at h
 |a::ids,none::q,H,b,j+1,y,hn,J,K,M=>by
  simp only[bI];simp only[dY,yc]at hn;exact v6 hn.2 (by simpa using J) (by simpa using K) M
 |a::ids,some x::q,H,b,0,y,hn,J,K,M=>by
  simp only[bI,aN];simp at J K;subst J K;simp only[dY,yc,yw]at hn;rw[oD (λj y J _=>by rw[rD.2 (yk J)]at hn;simp at hn),yt M];rfl
 |a::ids,some x::q,H,b,j+1,y,hn,J,K,M=>by
  simp only[bI,aN];simp only[dY,yc]at hn;exact v6 hn.2 (by simpa using J) (by simpa using K) (by simpa using M)
theorem nH{f:kY}: ∀{m:aK} {i:Nat},(e7 f m)[i]?=(m[i]?).map λo=>o.map λx=>{gen:=0,frz:=x.frz,row:=x.row.ren f}
 | [],i=>by simp[e7]
 |some x::r,0=>by simp[e7]
 |none::r,0=>by simp[e7]
 |some x::r,i+1=>by simp[e7,nH (m:=r)]
 |none::r,i+1=>by simp[e7,nH (m:=r)]
theorem y0{a b:List Nat}:w9 a b=true->∀x∈a,x∉b:=by
 induction a with
 |nil=>simp
 |cons m r K=>
  intro h x H J;simp only[w9,yc,yw]at h;rcases yj1.1 H with rfl|H
  ·rw[rD.2 J]at h;simp at h
  ·exact K h.2 x H J
section
variable {P:Program}
def AQ(G:Gh)(w:World)(mem:aK)(ids:List Nat)(B:Nat):Prop:=
 w.heap.size≤B\/∃(b:Nat) (x:bK) (C:Nat),b∈ids/\mem[b]?=some (some x)/\eT G b x C/\(B=C\/∃i c,cN w C x.row i c B)
def O7(G:Gh)(w:World)(mem:aK)(ids lent:List Nat):Gh:={loc:=wI 0 true G mem ids,prot:=(G.lend (aW G w mem lent)).prot,mine:=AQ G w mem ids}
theorem AQ.mine{G:Gh}{w:World}{mem:aK}{ids:List Nat}{B:Nat}(hM:aH G w mem)(h:AQ G w mem ids B):G.mine B:=by
 rcases h with h|⟨b,x,C,_,H,hC,rfl|⟨i,c,J⟩⟩
 ·exact hM.own B h
 ·let ⟨_,_,_,h,_⟩:=hM.blk H hC;exact h
 ·exact(hM.inn H hC J).1
theorem aH.blk_lt{G:Gh}{w:World}{mem:aK}(hM:aH G w mem){b:Nat}{x:bK}{L:Ff}{B:Nat}(J:mem[b]?=some (some x))(H:G.loc b x.gen=some L)(hB:L.blk=some B):B<w.heap.size:=hM.blkSz J ⟨L,H,hB⟩
theorem aH.lent_apart{G:Gh}{w:World}{mem:aK}{ids lent:List Nat}(hM:aH G w mem)(Y:w9 lent ids=true){b:Nat}{x:bK}{C B:Nat}(W:b∈ids)(O:mem[b]?=some (some x))(hC:eT G b x C)(hB:B=C\/∃i c,cN w C x.row i c B)(o:Nat): ¬aW G w mem lent B o:=by
 rintro⟨K,J,x2,Z,N,_,M,V⟩
 have H:K≠b:=by rintro rfl;exact y0 Y K J W
 have hO:j8 G w mem b B:=⟨K,x2,Z,H,N,M,V⟩
 rcases hB with rfl|⟨i,c,U⟩
 ·exact hM.other_ne O hC hO rfl
 ·exact hM.other_inn O hC U hO
theorem Tc{G:Gh}{w:World}{mem:aK}{ids lent:List Nat}(hM:aH G w mem)(hn:dY ids=true)(N:w9 lent ids=true):aH (O7 G w mem ids lent) w (eH 0 true (fU 0 true mem ids) mem 0 ids):=by
 refine H4 hM hn rfl (λ_ _ _ h=> .inl h) (λb x B K J hf hB β o H=>?_) (λb x B K J hB=> .inr ⟨b,x,B,K,J,hB,.inl rfl⟩) (λb x B i c B' K J hB M=>⟨.inr ⟨b,x,B,K,J,hB,.inr ⟨i,c,M⟩⟩,fun β o H=>?_⟩) (λB h=> .inl h) (λB o h=>?_) (fun β B o h=>?_)
 ·rcases H with H|⟨_,H⟩
  ·let ⟨_,_,_,_,_,_,_,h⟩:=hM.blk J hB;exact h hf β o H
  ·exact hM.lent_apart N K J hB (.inl rfl) o H
 ·rcases H with H|⟨_,H⟩
  ·exact(hM.inn J hB M).2.2.2 β o H
  ·exact hM.lent_apart N K J hB (.inr ⟨i,c,M⟩) o H
 ·rcases h with h|⟨h,_⟩
  ·exact .inl (hM.lab B o h)
  ·cases h
 ·rcases h with h|⟨_,h⟩
  ·exact hM.away β B o h
  ·exact hM.inBoxes_lt B o h
def iH(G G3:Gh)(mem q:aK)(ids:List Nat)(len:Nat):Nat->Nat->Option Ff:=λa g=>
 if a<mem.length then
  match w7 a ids 0 with
  |some j=>match q[j]? with
   |some (some y)=>if g=(l6 (λ_ _=>none) mem a y).gen then G3.loc j y.gen else G.loc a g
   |_=>G.loc a g
  |none=>G.loc a g
 else if g=0/\ids.length+(a-mem.length)<len then G3.loc (ids.length+(a-mem.length)) 0 else none
theorem sV: ∀{ids:List Nat} {b n j:Nat},dY ids=true->ids[j]?=some b->w7 b ids n=some (n+j)
 | [],b,n,j,_,h=>by simp at h
 |m::r,b,n,0,_,h=>by simp at h;subst h;simp[w7]
 |m::r,b,n,j+1,hn,h=>by
  have H:m≠b:=by
   rintro rfl
   have:=rO (i:=0) (j:=j+1) hn (by simp) h;omega
  simp only[dY,yc]at hn;simp only[w7];have J:Nat.beq m b=false:=by
   cases J:Nat.beq m b with
   |false=>rfl
   |true=>exact absurd (bN.1 J) H
  rw[J];simp only[yh];rw[sV hn.2 (by simpa using h)];congr 1;omega
theorem KX{G G3 G4:Gh}{w w':World}{mem q sub:aK}{ids lent:List Nat}{r:AV}{cv qv:Value}{qr:AV}(hM:aH G w mem)(hn:dY ids=true)(hd:w9 lent ids=true)
  (hR:TW (O7 G w mem ids lent) w (eH 0 true (fU 0 true mem ids) mem 0 ids) (qr,q) G3 w' qv) (hlent:fZ lent=true\/(r.lent=false/\iL q=false))
  (hv:VR G4 w' r cv) (h4m:G4.mine=G3.mine) (h4l:G4.loc=G3.loc) (h4p: ∀β B o,G3.prot β B o->G4.prot β B o) (h4n: ∀β B o,G4.prot β B o->G3.prot β B o\/m6 G3 q sub.length B o) (h4lab: ∀B o,G4.prot false B o->G4.prot true B o)
  (hsub: ∀j:Nat,j<sub.length->sub[j]?=q[j]?) (hsl:ids.length≤sub.length) (hql:sub.length≤q.length):
  ∃G':Gh,VR G' w' (r.ren (cX mem sub ids)) cv/\c5 G G'/\Ev G w w'/\aH G' w' (aN mem (bI (cX mem sub ids) mem ids q)++e7 (cX mem sub ids) (sub.drop ids.length)):=by
 obtain⟨hv3,hev,hmine3,hprot3,hnew3,hM3,hgens,hkept,hnones⟩:=hR;simp only at hM3 hgens hkept hnones;have hpl:(eH 0 true (fU 0 true mem ids) mem 0 ids).length=ids.length:=by
  have h1: ∀(l:List Nat) (n:Nat),(eH 0 true (fU 0 true mem ids) mem n l).length=l.length:=by
   intro l
   induction l with
   |nil=>intro n;rfl
   |cons b l ih=>intro n;simp only[eH,yz,ih]
  exact h1 ids 0
 rw[hpl]at hgens
 -- a box of ids
 have hq: ∀{j a:Nat} {y:bK},ids[j]?=some a->q[j]?=some (some y)->∃x,mem[a]?=some (some x)/\y.row.isCells=x.row.isCells/\∀L,G.loc a x.gen=some L->G3.loc j 0=some L:=by
  intro j a y hj M;cases Z:mem[a]? with
  |none=>
   have:=hnones j (by rw[e9,hj];simp[Z]);rw[M]at this;cases this
  |some o=>
   cases o with
   |none=>
    have:=hnones j (by rw[e9,hj];simp[Z]);rw[M]at this;cases this
   |some x=>
    obtain⟨y',hy',hk,hl⟩:=hkept j {gen:=gA 0 true x.row.isCells j x.gen,frz:=x.frz,row:=x.row.ren (fU 0 true mem ids)} (by rw[e9,hj];simp[Z]);rw[M]at hy';obtain rfl:y=y':=by simpa using hy'
    simp only[dG]at hk hl;refine⟨x,rfl,hk,λL hL=>hl L ?_⟩;have h0:gA 0 true x.row.isCells j x.gen=0:=by simp[gA,AA]
    simp[O7,wI,hj,lJ.2 ⟨x,Z,rfl⟩,nS Z,h0,hL]
 have hq2: ∀{j a:Nat} {x:bK},ids[j]?=some a->mem[a]?=some (some x)->∃y,q[j]?=some (some y):=by
  intro j a x hj Z;obtain⟨y',hy',_⟩:=hkept j {gen:=gA 0 true x.row.isCells j x.gen,frz:=x.frz,row:=x.row.ren (fU 0 true mem ids)} (by rw[e9,hj];simp[Z]);exact⟨y',hy'⟩
 have hbgen: ∀{a:Nat} {x y:bK} {f:kY},mem[a]?=some (some x)->(l6 f mem a y).gen=x.gen+y.gen:=by
  intro a x y f Z;simp[l6,lJ.2 ⟨x,Z,rfl⟩]
 have hcome: ∀B,G3.mine B->AQ G w mem ids B:=λB h=>by rw[hmine3]at h;exact h
 have hEv:Ev G w w':=⟨hev.size,hev.out,hev.os,λB hB hm=>hev.away B hB (λh=>hm (AQ.mine hM h)),hev.some,fun β B o h=>hev.prot β B o (.inl h),hev.fz,hev.tape⟩
 -- the protection
 let pr:Bool->Nat->Nat->Prop:=fun β B o=>if β=true then(if fZ lent=true then G4.prot true B o else G.prot true B o\/G4.prot false B o)else G4.prot false B o
 have hnbc: ∀{b:Nat} {x:bK} {L:Ff} {B:Nat},q[b]?=some (some x)->G3.loc b x.gen=some L->L.blk=some B->AQ G w mem ids B:=λZ hl hB=>hcome _ (hM3.mine Z hl hB);have hnb4: ∀β B o,G4.prot β B o->G3.prot β B o\/AQ G w mem ids B:=fun β B o h=>(h4n β B o h).imp id (by rintro⟨b,x,L,_,Z,hl,hB⟩;exact hnbc Z hl hB);have hsem: ∀B o,fZ lent=true->¬aW G w mem lent B o:=by
  rintro B o he ⟨b,hb,_⟩
  rw[oT he]at hb;cases hb
 have hprle: ∀β B o,pr β B o->(∃β',G.prot β' B o)\/AQ G w mem ids B:=by
  intro β B o h;have h3: ∀β,(β=true->fZ lent=true)->G4.prot β B o->(∃β',G.prot β' B o)\/AQ G w mem ids B:=by
   intro β hβ h;rcases hnb4 β B o h with h|h
   ·rcases hnew3 β B o h with h|h
    ·rcases h with h|⟨h,h'⟩
     ·exact .inl ⟨_,h⟩
     ·exact absurd h' (hsem B o (hβ h))
    ·exact .inr h
   ·exact .inr h
  simp only[pr]at h;split at h
  ·split at h
   ·rename_i he;exact h3 true (λ_=>he) h
   ·rcases h with h|h
    ·exact .inl ⟨_,h⟩
    ·exact h3 false (λh=>by cases h) h
  ·exact h3 false (λh=>by cases h) h
 have hG4: ∀β B o,G.prot β B o->G4.prot β B o:=fun β B o h=>h4p β B o (hprot3 β B o (.inl h));have hprG: ∀β B o,G.prot β B o->pr β B o:=by
  intro β B o h;simp only[pr];cases β with
  |true=>simp only[if_true];split;exact hG4 _ _ _ h;exact .inl h
  |false=>simp only[yr2,if_false];exact hG4 _ _ _ h
 have hpr4: ∀β B o,pr β B o->∃β',G4.prot β' B o:=by
  intro β B o h;simp only[pr]at h;split at h
  ·split at h
   ·exact⟨_,h⟩
   ·rcases h with h|h
    ·exact⟨_,hG4 _ _ _ h⟩
    ·exact⟨_,h⟩
  ·exact⟨_,h⟩
 have hprnew: ∀β B o,pr β B o->G.prot β B o\/G.mine B:=by
  intro β B o h;have h3: ∀β,(β=true->fZ lent=true)->G4.prot β B o->G.prot β B o\/G.mine B:=by
   intro β hβ h;rcases hnb4 β B o h with h|h
   ·rcases hnew3 β B o h with h|h
    ·rcases h with h|⟨h,h'⟩
     ·exact .inl h
     ·exact absurd h' (hsem B o (hβ h))
    ·exact .inr (AQ.mine hM h)
   ·exact .inr (AQ.mine hM h)
  simp only[pr]at h;split at h
  ·rename_i hβ;subst hβ;split at h
   ·rename_i he;exact h3 true (λ_=>he) h
   ·rcases h with h|h
    ·exact .inl h
    ·rcases h3 false (λh=>by cases h) h with h|h
     ·exact .inl (hM.lab _ _ h)
     ·exact .inr h
  ·rename_i hβ;have:β=false:=by simpa using hβ
   subst this;exact h3 false (λh=>by cases h) h
 let G':Gh:={mine:=G.mine,prot:=pr,loc:=iH G G3 mem q ids sub.length}
 have hlen:(aN mem (bI (cX mem sub ids) mem ids q)).length=mem.length:=bY
 -- where boxes stand
 have lB: ∀{j a:Nat} {y:bK} {f:kY},ids[j]?=some a->q[j]?=some (some y)->G'.loc a (l6 f mem a y).gen=G3.loc j y.gen:=by
  intro j a y f hj M;obtain⟨x,Z,_⟩:=hq hj M;have W:a<mem.length:=(yd.1 Z).1;show iH G G3 mem q ids sub.length a _=_;unfold iH;rw[if_pos W,sV hn hj];simp only[yc1,M];rw[if_pos (by rfl)]
 have lO: ∀{a g:Nat},a<mem.length->a∉ids->G'.loc a g=G.loc a g:=by
  intro a g W J;show iH G G3 mem q ids sub.length a g=_;unfold iH;rw[if_pos W];cases N:w7 a ids 0 with
  |none=>rfl
  |some j=>
   obtain⟨i,rfl,hj⟩:=Bx N;exact absurd (yk hj) J
 have lN: ∀{i:Nat},ids.length+i<sub.length->G'.loc (mem.length+i) 0=G3.loc (ids.length+i) 0:=by
  intro i N;show iH G G3 mem q ids sub.length (mem.length+i) 0=_;unfold iH;rw[if_neg (by omega),yx3,if_pos ⟨rfl,N⟩]
 have hGle:c5 G G':=by
  refine⟨rfl,hprG,λa g L hL=>?_,hprnew⟩;by_cases W:a<mem.length
  ·show iH G G3 mem q ids sub.length a g=_;unfold iH;rw[if_pos W];cases N:w7 a ids 0 with
   |none=>exact hL
   |some j=>
    obtain⟨i,rfl,hj⟩:=Bx N;simp only[yc1];split
    ·rename_i y M;split
     ·rename_i hg;obtain⟨x,Z,hk,hc⟩:=hq hj M;rw[hbgen Z]at hg;subst hg;by_cases h0:y.gen=0
      ·rw[h0,yw1]at hL;rw[h0];exact hc L hL
      ·rw[hM.gens a x _ Z (by omega)]at hL;cases hL
     ·exact hL
    ·exact hL
  ·rw[hM.unset a g (λx Z=>W (yd.1 Z).1)]at hL;cases hL
 -- renaming back
 have hren:Ey G4 G' (cX mem sub ids):=by
  intro b g p L hp hL;unfold cX at hp;rw[h4l]at hL;split at hp
  ·rename_i a W;split at hp
   ·rename_i y h' M hgen;cases hge:Nat.beq y.gen g with
    |false=>rw[hge]at hp;cases hp
    |true=>
     rw[hge]at hp;simp only[yg]at hp;obtain rfl:=ya hp;obtain rfl:=bN.1 hge;have hb:b<ids.length:=(yd.1 W).1;rw[hsub b (by omega)]at M;have:=lB (f:=λ_ _=>none) W M;simp only[l6,hgen]at this;simp only;rw[this];exact hL
   ·cases hp
  ·rename_i hno;cases hlt:(Nat.beq g 0&&Nat.blt b sub.length)with
   |false=>rw[hlt]at hp;simp at hp
   |true=>
    rw[hlt]at hp;simp only[yg]at hp;obtain rfl:=ya hp;simp only[yc]at hlt;obtain rfl:=bN.1 hlt.1;have hb:b<sub.length:=by have:=hlt.2;simp[Nat.blt]at this;omega
    have hge:=List.getElem?_eq_none_iff.1 hno;have:=lN (i:=b-ids.length) (by omega);simp only;rw[this,show ids.length+(b-ids.length)=b by omega];exact hL
 have hp4: ∀{l:Bool},l=fZ lent->∀β B o,(β=true->l=true)->G4.prot β B o->G'.prot β B o:=by
  intro l hl β B o hβ h;show pr β B o;simp only[pr];cases β with
  |true=>simp only[if_true];rw[if_pos (by rw[<-hl];exact hβ rfl)];exact h
  |false=>simp only[yr2,if_false];exact h
 have hren3:Ey G3 G' (cX mem sub ids):=λb g p L hp hL=>hren b g p L hp (by rw[h4l];exact hL);have hrowlent: ∀{j:Nat} {y:bK},q[j]?=some (some y)->sN y.row=true->fZ lent=true:=by
  intro j y M hl;rcases hlent with h|⟨_,h⟩
  ·exact h
  ·rw[pK M hl]at h;cases h
 have hin3: ∀{j:Nat} {y:bK} {C i c X:Nat},q[j]?=some (some y)->eT G3 j y C->cN w' C y.row i c X->G.mine X/\∀β o,¬pr β X o:=by
  intro j y C i c X M hC N;obtain⟨k1,_,_,k4⟩:=hM3.inn M hC N;refine⟨AQ.mine hM (hcome X k1),fun β o hp=>?_⟩;obtain⟨β',hp'⟩:=hpr4 β X o hp;rcases h4n β' X o hp' with hp'|⟨b,x,L,hb,Z,hL,hB⟩
  ·exact k4 β' o hp'
  ·exact hM3.inA j b y x C i c X M hC N Z ⟨L,hL,hB⟩
 -- a box of the callee's, at its new number
 have hbox: ∀{j a g:Nat} {y:bK},j<sub.length->q[j]?=some (some y)->G'.loc a g=G3.loc j y.gen->T1 G' w' a {gen:=g,frz:=y.frz,row:=y.row.ren (cX mem sub ids)}:=by
  intro j a g y hjs M Y;have hby:=hM3.box j y M;obtain⟨o,a0,hl,ha0,hm⟩:=hby.loc;refine⟨by simp only[nV];exact hby.e,o,a0,by simp only[nV,j9];rw[Y];exact hl,by simp only[rU];exact ha0,?_⟩;cases o with
  |none=>simp only[j9,dG];exact hm
  |some B=>
   obtain⟨h1,h2,h3,h4,h5⟩:=hm;have hmB:G.mine B:=AQ.mine hM (hcome B h1);refine⟨hmB,h2,h3,h4.ren (l:=fZ lent) hren3 (fun β B o hβ h=>hp4 rfl β B o hβ (h4p β B o h)) (hrowlent M) (λi c X N=>hin3 M ⟨_,hl,rfl⟩ N),λhf β o hp=>?_⟩;obtain⟨β',hp'⟩:=hpr4 β B o hp;rcases h4n β' B o hp' with hp'|⟨b,x,L,hb,Z,hL,hB⟩
   ·exact h5 hf β' o hp'
   ·have:=hM3.apart j b y x _ L B M Z hl hL rfl hB;omega
 -- entries
 have hent: ∀(a:Nat) (z:bK),(aN mem (bI (cX mem sub ids) mem ids q)++e7 (cX mem sub ids) (sub.drop ids.length))[a]?=some (some z)->
   (a<mem.length/\a∉ids/\mem[a]?=some (some z))\/
   (∃j y,j<sub.length/\q[j]?=some (some y)/\z={gen:=z.gen,frz:=y.frz,row:=y.row.ren (cX mem sub ids)}/\G'.loc a z.gen=G3.loc j y.gen/\((∃x,ids[j]?=some a/\mem[a]?=some (some x)/\x.gen≤z.gen)\/(∃i,j=ids.length+i/\a=mem.length+i/\z.gen=0))):=by
  intro a z H;by_cases W:a<mem.length
  ·rw[yq (by rw[hlen];exact W)]at H;by_cases N: ∃(j:Nat) (y:bK),ids[j]?=some a/\q[j]?=some (some y)
   ·obtain⟨j,y,hj,M⟩:=N;rw[v6 hn hj M W]at H;obtain rfl:l6 (cX mem sub ids) mem a y=z:=by simpa using H
    obtain⟨x,Z,hk,_⟩:=hq hj M;have hjl:=(yd.1 hj).1;refine .inr ⟨j,y,by omega,M,rfl,lB hj M,.inl ⟨x,hj,Z,?_⟩⟩;rw[hbgen Z];omega
   ·rw[oD (λj y h1 h2=>N ⟨j,y,h1,h2⟩)]at H;refine .inl ⟨W,λhm=>?_,H⟩;obtain⟨j,hj,rfl⟩:=yx1 hm;obtain⟨y,M⟩:=hq2 (yf hj) H;exact N ⟨j,y,yf hj,M⟩
  ·rw[yx (by rw[hlen];omega),hlen,nH,ye1]at H;obtain⟨o,ho,H⟩:=ye.1 H;cases o with
   |none=>simp at H
   |some y=>
    simp only[yl,Option.some.injEq]at H;have hjl:=(yd.1 ho).1;rw[hsub _ hjl]at ho;have hg0:=hgens _ y (.inl (by omega)) ho;refine .inr ⟨_,y,hjl,ho,by rw[<-H],?_,.inr ⟨a-mem.length,rfl,by omega,by rw[<-H]⟩⟩;have:=lN hjl;rw[show mem.length+(a-mem.length)=a by omega]at this;rw[<-H,hg0];exact this
 have hblk3: ∀{a j:Nat} {z y:bK} {B:Nat},G'.loc a z.gen=G3.loc j y.gen->eT G' a z B->eT G3 j y B:=by
  rintro a j z y B Y ⟨L,hl,hB⟩
  rw[Y]at hl;exact⟨L,hl,hB⟩
 have hblkO: ∀{a:Nat} {z:bK} {B:Nat},a<mem.length->a∉ids->eT G' a z B->eT G a z B:=by
  rintro a z B W J ⟨L,hl,hB⟩
  rw[lO W J]at hl;exact⟨L,hl,hB⟩
 have hc3: ∀{j:Nat} {y:bK} {C B:Nat},q[j]?=some (some y)->eT G3 j y C->(B=C\/∃i c,cN w' C y.row i c B)->AQ G w mem ids B:=by
  rintro j y C B M hC (rfl|⟨i,c,N⟩)
  ·let ⟨_,_,_,h,_⟩:=hM3.blk M hC;exact hcome _ h
  ·exact hcome _ (hM3.inn M hC N).1
 have U: ∀{a:Nat} {z:bK} {C B:Nat},a∉ids->mem[a]?=some (some z)->eT G a z C->(B=C\/∃i c,cN w C z.row i c B)->¬AQ G w mem ids B:=by
  intro a z C B W H hC hB hc;rcases hc with hc|⟨b,x,D,hb,Z,hD,UE⟩
  ·rcases hB with rfl|⟨i,c,N⟩
   ·have:=hM.blkSz H hC;omega
   ·have:=(hM.inn H hC N).2.1;omega
  ·have hne:b≠a:=by rintro rfl;exact W hb
   have hO:j8 G w mem a B:=⟨b,x,D,hne,Z,hD,UE⟩
   rcases hB with rfl|⟨i,c,N⟩
   ·exact hM.other_ne H hC hO rfl
   ·exact hM.other_inn H hC N hO
 have hsame: ∀{a:Nat} {z:bK} {C B:Nat},a∉ids->mem[a]?=some (some z)->eT G a z C->(B=C\/∃i c,cN w C z.row i c B)->w'.heap[B]?=w.heap[B]?:=by
  intro a z C B W H hC hB;have hlt:B<w.heap.size:=by
   rcases hB with rfl|⟨i,c,N⟩
   ·exact hM.blkSz H hC
   ·exact(hM.inn H hC N).2.1
  exact hev.away B hlt (U W H hC hB)
 have hinO: ∀{a:Nat} {z:bK} {C i c X:Nat},a∉ids->mem[a]?=some (some z)->eT G a z C->cN w' C z.row i c X->cN w C z.row i c X:=λW H hC N=>N.same λo=>dP (hsame W H hC (.inl rfl)) o;refine⟨G',hv.ren (l:=fZ lent) hren (hp4 rfl) (λhl=>?_),hGle,hEv,?_⟩
 ·rcases hlent with h|⟨h,_⟩
  ·exact h
  ·rw[h]at hl;cases hl
 refine⟨λa z H=>?_,λa g H=>?_,λa z g H hlt=>?_,λa a' z z' L L' B H V hl hl' hk hk'=>?_,λa a' z z' B i c X H hk N V hk'=>?_,λa a' z z' B C i c i' c' X H hk N V hk' hi'=>?_,λB hB=>hM.own B (yq2 hEv.size hB),λB o h=>?_,fun β B o h=>?_,hM.glob.mono (hGle.prot true) (hEv.prot true)⟩
 ·rcases hent a z H with ⟨W,J,H⟩|⟨j,y,hjs,M,hze,Y,_⟩
  ·have hbz:=hM.box a z H;obtain⟨o,a0,hl,ha0,hm⟩:=hbz.loc;refine⟨hbz.e,o,a0,by rw[lO W J];exact hl,ha0,?_⟩;cases o with
   |none=>exact hm
   |some B=>
    obtain⟨h1,h2,h3,h4,h5⟩:=hm;have hB:eT G a z B:=⟨_,hl,rfl⟩
    have hnc:=U J H hB (.inl rfl);have hh:w'.heap[B]?=w.heap[B]?:=hsame J H hB (.inl rfl);refine⟨h1,yj2 h2 hEv.size,h3.of_heap hh,h4.mono hGle hEv (λo _=>dP hh o) (λi c X N=>⟨.of (hsame J H hB (.inr ⟨i,c,N⟩)),fun β o hp=>?_⟩),λhf β o hp=>?_⟩
    ·rcases hprle β X o hp with ⟨β',hp⟩|hp
     ·exact(hM.inn H hB N).2.2.2 β' o hp
     ·exact U J H hB (.inr ⟨i,c,N⟩) hp
    ·rcases hprle β B o hp with ⟨β',hp⟩|hp
     ·exact h5 hf β' o hp
     ·exact hnc hp
  ·rw[hze];exact hbox hjs M Y
 ·by_cases W:a<mem.length
  ·by_cases J:a∈ids
   ·obtain⟨j,hj,rfl⟩:=yx1 J;have hjj:=yf hj;cases M:q[j]? with
    |none=>
     have:=hql;have:=(List.getElem?_eq_none_iff.1 M);omega
    |some o=>
     cases o with
     |some y=>
      refine absurd ?_ (H (l6 (cX mem sub ids) mem ids[j] y));rw[yq (by rw[hlen];exact W)];exact v6 hn hjj M W
     |none=>
      show iH G G3 mem q ids sub.length _ g=none;unfold iH;rw[if_pos W,sV hn hjj];simp only[yc1,M];refine hM.unset _ g (λx Z=>?_);obtain⟨y,hy'⟩:=hq2 hjj Z;rw[M]at hy';cases hy'
   ·rw[lO W J];refine hM.unset a g (λx Z=>H x ?_);rw[yq (by rw[hlen];exact W),oD (λj y h1 _=>J (yk h1))];exact Z
  ·show iH G G3 mem q ids sub.length a g=none;unfold iH;rw[if_neg W];split
   ·rename_i hc;refine hM3.unset _ 0 (λx Z=>?_);refine H {gen:=0,frz:=x.frz,row:=x.row.ren (cX mem sub ids)} ?_;rw[yx (by rw[hlen];omega),hlen,nH,ye1,hsub _ hc.2,Z];rfl
   ·rfl
 ·rcases hent a z H with ⟨W,J,H⟩|⟨j,y,hjs,M,hze,Y,⟨x,hj,Z,hge⟩|⟨i,rfl,rfl,h0⟩⟩
  ·rw[lO W J];exact hM.gens a z g H hlt
  ·have W:a<mem.length:=(yd.1 Z).1;have K:=lB (f:=λ_ _=>none) hj M;show iH G G3 mem q ids sub.length a g=none;unfold iH;rw[if_pos W,sV hn hj];simp only[yc1,M];have hzg:z.gen=(l6 (λ_ _=>none) mem a y).gen:=by
    have hz2:=H;rw[yq (by rw[hlen];exact W),v6 hn hj M W]at hz2;obtain rfl:l6 (cX mem sub ids) mem a y=z:=by simpa using hz2
    rfl
   rw[if_neg (by omega)];exact hM.gens a x g Z (by omega)
  ·show iH G G3 mem q ids sub.length _ g=none;unfold iH;rw[if_neg (by omega),if_neg (by omega)]
 ·rcases hent a z H with ⟨W,J,H⟩|⟨j,y,hjs,M,hze,Y,hw⟩
  ·have hB:=hblkO W J ⟨L,hl,hk⟩;rw[lO W J]at hl;rcases hent a' z' V with ⟨ha',O,V⟩|⟨j',y',hjs',hy',hze',K,hw'⟩
   ·rw[lO ha' O]at hl';exact hM.apart a a' z z' L L' B H V hl hl' hk hk'
   ·exact absurd (hc3 hy' (hblk3 K ⟨L',hl',hk'⟩) (.inl rfl)) (U J H hB (.inl rfl))
  ·have hB:=hblk3 Y ⟨L,hl,hk⟩;rw[Y]at hl;rcases hent a' z' V with ⟨ha',O,V⟩|⟨j',y',hjs',hy',hze',K,hw'⟩
   ·have hB':=hblkO ha' O ⟨L',hl',hk'⟩;exact absurd (hc3 M hB (.inl rfl)) (U O V hB' (.inl rfl))
   ·rw[K]at hl';have hjj:=hM3.apart j j' y y' L L' B M hy' hl hl' hk hk';subst hjj;rcases hw with ⟨x,hj,_⟩|⟨i,N,rfl,_⟩
    ·rcases hw' with ⟨x',hj',_⟩|⟨i',hi',rfl,_⟩
     ·rw[hj]at hj';exact ya hj'
     ·have:=(yd.1 hj).1;omega
    ·rcases hw' with ⟨x',hj',_⟩|⟨i',hi',rfl,_⟩
     ·have:=(yd.1 hj').1;omega
     ·omega
 ·rcases hent a z H with ⟨W,J,H⟩|⟨j,y,hjs,M,hze,Y,hw⟩
  ·have hB:=hblkO W J hk;have N:=hinO J H hB N;rcases hent a' z' V with ⟨ha',O,V⟩|⟨j',y',hjs',hy',hze',K,hw'⟩
   ·exact hM.inA a a' z z' B i c X H hB N V (hblkO ha' O hk')
   ·exact U J H hB (.inr ⟨i,c,N⟩) (hc3 hy' (hblk3 K hk') (.inl rfl))
  ·have hB:=hblk3 Y hk;rw[hze]at N;have N:=cN.ren.1 N;rcases hent a' z' V with ⟨ha',O,V⟩|⟨j',y',hjs',hy',hze',K,hw'⟩
   ·exact U O V (hblkO ha' O hk') (.inl rfl) (hc3 M hB (.inr ⟨i,c,N⟩))
   ·exact hM3.inA j j' y y' B i c X M hB N hy' (hblk3 K hk')
 ·rcases hent a z H with ⟨W,J,H⟩|⟨j,y,hjs,M,hze,Y,hw⟩
  ·have hB:=hblkO W J hk;have N:=hinO J H hB N;rcases hent a' z' V with ⟨ha',O,V⟩|⟨j',y',hjs',hy',hze',K,hw'⟩
   ·have hB':=hblkO ha' O hk';exact hM.inB a a' z z' B C i c i' c' X H hB N V hB' (hinO O V hB' hi')
   ·rw[hze']at hi';exact absurd (hc3 hy' (hblk3 K hk') (.inr ⟨i',c',cN.ren.1 hi'⟩)) (U J H hB (.inr ⟨i,c,N⟩))
  ·have hB:=hblk3 Y hk;rw[hze]at N;have N:=cN.ren.1 N;rcases hent a' z' V with ⟨ha',O,V⟩|⟨j',y',hjs',hy',hze',K,hw'⟩
   ·have hB':=hblkO ha' O hk';exact absurd (hc3 M hB (.inr ⟨i,c,N⟩)) (U O V hB' (.inr ⟨i',c',hinO O V hB' hi'⟩))
   ·rw[hze']at hi';obtain⟨hjj,h2⟩:=hM3.inB j j' y y' B C i c i' c' X M hB N hy' (hblk3 K hk') (cN.ren.1 hi');subst hjj;refine⟨?_,h2⟩;rcases hw with ⟨x,hj,_⟩|⟨i,N,rfl,_⟩
    ·rcases hw' with ⟨x',hj',_⟩|⟨i',hi',rfl,_⟩
     ·rw[hj]at hj';exact ya hj'
     ·have:=(yd.1 hj).1;omega
    ·rcases hw' with ⟨x',hj',_⟩|⟨i',hi',rfl,_⟩
     ·have:=(yd.1 hj').1;omega
     ·omega
 ·show pr true B o;have h':pr false B o:=h;simp only[pr,yr2,if_false]at h';simp only[pr,if_true];split
  ·exact h4lab B o h'
  ·exact .inr h'
 ·obtain⟨β',hp'⟩:=hpr4 β B o h;rcases h4n β' B o hp' with hp'|⟨b,x,L,hb,Z,hL,hB⟩
  ·exact hM3.away β' B o hp'
  ·exact hM3.blk_lt Z hL hB
end
end Go.Ab
end
section
namespace Go.Ab
variable [cF]
section
variable {P:Program}
theorem pY.append{G:Gh}{w:World}{a b:List AV}{u v:Array Value}(h:pY G w a u)(K:pY G w b v):pY G w (a++b) (u++v):=by
 refine⟨by simp[h.1,K.1],λj y H=>?_⟩;by_cases J:j<a.length
 ·rw[yq J]at H;have:=h.2 j y H;rw[yp,yi3 (by rw[<-h.1];exact J),<-yp];exact this
 ·rw[yx (by omega)]at H;have:=K.2 _ y H;rw[yp,Array.getElem?_append_right (by rw[<-h.1];omega),<-h.1,<-yp];exact this
theorem pY.renAll{G H:Gh}{w:World}{f:kY}{as:List AV}{vs:Array Value}(h:pY G w as vs)(hr:Ey G H f)(M: ∀β B o,G.prot β B o->H.prot β B o):pY H w (AV.renAll f as) vs:=by
 refine⟨by rw[fA];simpa using h.1,λj y J=>?_⟩;obtain⟨x,K,rfl⟩:=r7 J;exact(h.2 j x K).ren (l:=true) hr (fun β B o _=>M β B o) (λ_=>rfl)
theorem ME{C:bX}(hC:kW P C){G:Gh}{w:World}{mem:aK}(hM:aH G w mem){raw keep:Bool}{g:FuncId}{ts:List TypeId}{fi args ca:List AV}{out:dI}{fv av cv:Array Value}
  (h:Aq P C raw keep g ts fi args ca mem=some out) (hf:pY G w fi fv) (ha:pY G w args av) (hc:pY G w ca cv):Nv P G w mem g (fv++av++cv) out:=by
 unfold Aq at h;rw[bind_some]at h;obtain⟨J,hla,h⟩:=h;simp only at h;generalize hids:gQ mem (dL mem (AV.refsAll (fi++J.1++ca)).length) (AV.refsAll (fi++J.1++ca)) []=ids at h;rw[aA]at h;obtain⟨hg,h⟩:=h;simp only[yc]at hg;obtain⟨hn,hd⟩:=hg;rw[bind_some]at h;obtain⟨q,hq,h⟩:=h;rw[aA]at h;obtain⟨hg,h⟩:=h;simp only[yc,yc2,yw,Bool.or_eq_false_iff]at hg;obtain⟨O,H⟩:=hg;have O:=cO.1 O;have hgl:=c5.lend G (aW G w mem J.2) hM.inBoxes;have V:=MK (us:=av.toList) (S:=J.2) hM hla ⟨by simpa using ha.1,λj y hy=>by rw[eL];exact ha.2 j y hy⟩ (λb h=>h);have hall:pY (G.lend (aW G w mem J.2)) w (fi++J.1++ca) (fv++av++cv):=
  ((hf.mono hgl (Ev.refl G w)).append ⟨by simpa using V.1,λj y hy=>by rw[<-eL];exact V.2 j y hy⟩).append (hc.mono hgl (Ev.refl G w))
 have hM1:=Tc (lent:=J.2) hM hn hd;have Z:pY (O7 G w mem ids J.2) w (AV.renAll (fU 0 true mem ids) (fi++J.1++ca)) (fv++av++cv):=hall.renAll (Gx (G:=G.lend (aW G w mem J.2)) rfl) (λ_ _ _ h=>h);obtain⟨hen,hcl⟩:=hC g _ _ q hq _ w _ hM1 (λj x hx=>by obtain⟨b,y,_,_,rfl⟩:=dU hx;simp[gA,AA]) Z;refine⟨hen,Calls.mono hcl λe w' he=>?_⟩;obtain⟨G3,qv,rfl,hR⟩:=he;obtain⟨qr,qm⟩:=q;simp only at h H O hR;have hR':=hR;obtain⟨M,hev,hmine3,hprot3,hnew3,U,hgens,hkept,hnones⟩:=hR';simp only at M U;have hl3: ∀B o,G3.prot false B o->G3.prot true B o:=U.lab;cases hcd:(gB ids.length (bif raw then qr else mX ids.length qm qr).refs&&gB ids.length (cJ (List.take ids.length qm)))with
 |true=>
  rw[hcd]at h;simp only[yg]at h;obtain rfl:=ya h;have htl:(qm.take ids.length).length=ids.length:=by simp;omega
  have key: ∃r,r=(bif raw then qr else mX ids.length qm qr)/\VR (G3.frz (m6 G3 qm ids.length)) w' r qv/\(qr.lent=false/\iL qm=false->r.lent=false):=by
   cases raw with
   |true=>exact⟨_,rfl,M.mono (c5.frz G3 _ (by rintro B o ⟨b,x,L,_,hx,hl,hB⟩;exact U.mine hx hl hB)) (Ev.refl G3 w'),λh=>h.1⟩
   |false=>exact⟨_,rfl,KA U M,λh=>Mf h.2 h.1⟩
  obtain⟨r,hr,hvr,hrl⟩:=key;obtain⟨G',W,K,Y,N⟩:=KX (sub:=qm.take ids.length) (lent:=J.2) (r:=r) (cv:=qv) hM hn hd hR (H.imp id (λh=>⟨hrl h,h.2⟩)) hvr rfl rfl (λ_ _ _ h=> .inl h)
   (fun β B o h=>by rw[htl];exact h) (λB o h=>h.imp (hl3 B o) id) (λj hj=>by rw[htl]at hj;rw[ys1,if_pos hj]) (by omega) (by omega)
  refine⟨G',qv,rfl,by rw[<-hr];exact W,K,Y,?_⟩;have hnil:(qm.take ids.length).drop ids.length= []:=List.drop_eq_nil_of_le (by omega);rw[hnil]at N;exact N
 |false=>
  rw[hcd]at h;simp only[yh]at h;obtain rfl:=ya h;obtain⟨G',W,K,Y,N⟩:=KX (sub:=qm) (lent:=J.2) (r:=qr) (cv:=qv) hM hn hd hR H M rfl rfl (λ_ _ _ h=>h)
   (fun β B o h=> .inl h) hl3 (λj hj=>rfl) O (ya1 _)
  exact⟨G',qv,rfl,W,K,Y,N⟩
end
end Go.Ab
end
section
namespace Go.Ab
variable [cF]
structure SR (G:Gh) (w:World) (st:St) (a:Act):Prop where
 memr:aH G w st.mem
 len:st.tmps.length=a.tmps.size
 tmps: ∀(j:Nat) (x:AV),st.tmps[j]?=some x->gK x=true\/VR G w x (a.tmps.getD j undef)
 defers:a.defers= []
structure FB (G0:Gh) (w0:World) (old:List (Option Bool)) (G:Gh) (w:World):Prop where
 ev:Ev G0 w0 w
 mine:G.mine=G0.mine
 prot: ∀β B o,G0.prot β B o->G.prot β B o
 new: ∀β B o,G.prot β B o->G0.prot β B o\/G0.mine B
 keep: ∀(j:Nat) (k:Bool),old[j]?=some (some k)->∀L,G0.loc j 0=some L->G.loc j 0=some L
theorem FB.refl(G:Gh)(w:World)(old:List (Option Bool)):FB G w old G w:=⟨Ev.refl G w,rfl,λ_ _ _ h=>h,λ_ _ _ h=> .inl h,λ_ _ _ _ h=>h⟩
theorem FB.step{G0:Gh}{w0:World}{old:List (Option Bool)}{G K:Gh}{w N:World}(h:FB G0 w0 old G w)(J:c5 G K)(H:Ev G w N):FB G0 w0 old K N where
 ev:=
  ⟨yq2 h.ev.size H.size,H.out.trans h.ev.out,H.os.trans h.ev.os,λB M hm=>(H.away B (yj2 M h.ev.size) (by rw[h.mine];exact hm)).trans (h.ev.away B M hm),
   λB o x=>H.some B o (h.ev.some B o x),fun β B o x=>(H.prot β B o (h.prot _ _ _ x)).trans (h.ev.prot β B o x),λB o x=>(H.fz B o (h.ev.some B o x)).trans (h.ev.fz B o x),H.tape.trans h.ev.tape⟩
 mine:=J.mine.trans h.mine
 prot β B o x:=J.prot _ _ _ (h.prot _ _ _ x)
 new β B o x:=(J.new _ _ _ x).elim (h.new _ _ _) (λy=> .inr (by rw[<-h.mine];exact y))
 keep j k hj L hL:=J.loc _ _ _ (h.keep j k hj L hL)
theorem Qj{tmps:List AV}{t:Nat}{v:AV}(h:Fo tmps t=some v):tmps[t]?=some v/\gK v=false:=by
 unfold Fo at h;rw[bA]at h;rw[bind_some]at h;obtain⟨u,J,h⟩:=h;cases H:gK u with
 |true=>rw[H]at h;simp at h
 |false=>rw[H]at h;simp only[yh]at h;obtain rfl:=ya h;exact⟨J,H⟩
section
variable {P:Program}
theorem SR.get{G:Gh}{w:World}{st:St}{a:Act}(h:SR G w st a){t:Nat}{v:AV}(ht:Fo st.tmps t=some v):VR G w v (a.tmps.getD t undef):=by
 obtain⟨J,K⟩:=Qj ht;rcases h.tmps t v J with H|H
 ·rw[K]at H;cases H
 ·exact H
theorem Nz{G:Gh}{w:World}{mem:aK}(hM:aH G w mem){g:Nat}{q:Int×Int}(h:cF.tab g=some q):VR G w (.el true (.agg [.lit (.int .i64 q.1),.lit (.int .i64 q.2)]) 0) (.pointer (some ⟨g,0,none⟩)):=by
 obtain⟨⟨M,N⟩,J,K⟩:=hM.glob g q h;refine .el true _ 0 g 0 (λj=>if j=0 then .int .i64 q.1 else .int .i64 q.2) (λj y H=>?_) (λj y H=>?_)
 ·match j,H with
  |0,H=>exact⟨M,N⟩
  |1,H=>exact⟨J,K⟩
 ·match j,H with
  |0,H=>obtain rfl:=ya H;exact .lit _ rfl
  |1,H=>obtain rfl:=ya H;exact .lit _ rfl
theorem SR.eval{G:Gh}{w:World}{st:St}{a:Act}(h:SR G w st a):Rw G w (cC st.tmps) a:=by
 intro x v H;cases x with
 |tmp t=>exact h.get H
 |const c=>exact mR H
 |func f=>
  obtain rfl:=ya H;exact .fn (.func f) [] [] #[] #[] rfl rfl (λj y J=>by simp at J) (λj y J=>by simp at J)
 |global g=>
  simp only[cC]at H;obtain⟨q,K,rfl⟩:=ye.1 H;exact Nz h.memr K
theorem Mo(a:Act)(dst:Option Tmp)(v:Value):(a.put dst v).defers=a.defers/\(a.put dst v).tmps.size=a.tmps.size:=by
 cases dst<;>simp[Act.put]
theorem SR.put{G K:Gh}{w M:World}{st:St}{a:Act}{dst:Option Tmp}{v:AV}{cv:Value}{mem':aK}(h:SR G w st a)(U:c5 G K)(O:Ev G w M)(V:VR K M v cv)(hM:aH K M mem'):
  SR K M {tmps:=nM st.tmps dst v,mem:=mem'} (a.put dst cv):=by
 refine⟨hM,?_,λj x H=>?_,by rw[(Mo a dst cv).1];exact h.defers⟩
 ·rw[(Mo a dst cv).2,<-h.len];cases dst<;>simp[nM,d8]
 ·cases dst with
  |none=>exact(h.tmps j x H).imp id (λh=>h.mono U O)
  |some d=>
   simp only[nM,d8]at H;simp only[Act.put];by_cases N:j=d
   ·subst N;have J:j<st.tmps.length:=by have:=(yd.1 H).1;simpa using this
    rw[yt J]at H;obtain rfl:=ya H;right;rw[yp,Array.getElem?_setIfInBounds_self_of_lt (by rw[<-h.len];exact J)];exact V
   ·rw[yo (λe=>N e.symm)]at H;refine(h.tmps j x H).imp id (λh=>?_);rw[yp,Array.getElem?_setIfInBounds_ne (λe=>N e.symm),<-yp];exact h.mono U O
theorem aH.congr{G:Gh}{w:World}{mem mem':aK}(hM:aH G w mem)(h: ∀(b:Nat) (x:bK),mem'[b]?=some (some x)↔mem[b]?=some (some x)):aH G w mem':=
 ⟨λb x J=>hM.box b x ((h b x).1 J),λb g J=>hM.unset b g (λx H=>J x ((h b x).2 H)),λb x g J=>hM.gens b x g ((h b x).1 J),
  λb K x x' L O B J H=>hM.apart b K x x' L O B ((h b x).1 J) ((h K x').1 H),λb K x x' B i c B' J k M H=>hM.inA b K x x' B i c B' ((h b x).1 J) k M ((h K x').1 H),
  λb K x x' B C i c N U B' J k M H=>hM.inB b K x x' B C i c N U B' ((h b x).1 J) k M ((h K x').1 H),hM.own,hM.lab,hM.away,hM.glob⟩
theorem K9: ∀{m:aK} {b:Nat} {x:bK},(trim m)[b]?=some (some x)↔m[b]?=some (some x)
 | [],b,x=>by simp[trim]
 |y::m,b,x=>by
  have J:=λb=>K9 (m:=m) (b:=b) (x:=x);simp only[trim];split
  ·rename_i hn;rw[hn]at J;have H: ∀b:Nat,m[b]?≠some (some x):=λb K=>by have:=(J b).2 K;simp at this
   cases y with
   |none=>
    simp only[OX,yg];cases b with
    |zero=>simp
    |succ b=>simp[H b]
   |some y=>
    simp only[OX,yh];cases b with
    |zero=>simp
    |succ b=>simp[H b]
  ·rename_i z hz;cases b with
   |zero=>simp
   |succ b=>simp only[ym1];exact J b
theorem P3{mem:aK}{rs:Nat}:Aa mem rs=true↔mem[rs]?=some none:=by
 unfold Aa;split
 ·rename_i h;simp[h]
 ·rename_i h;constructor
  ·intro H;cases H
  ·intro H;exact absurd H h
inductive wR (P:Program) (C:bX) (an:nB) (tk:Bool) (rid:Nat) (ops:Array Oper) (o:Oper) (i rs:Nat) (st:St):St->Option Tr->Prop
 |run (out:dI) (st1:St) (hst:st1.mem=st.mem/\∀t:Nat,st1.tmps[t]?=st.tmps[t]?) (hres:eE o.op=true->Aa st.mem rs=true) (h:Ii P C (bG rid i an.own) tk (bG rid i an.boxed) (bG rid i an.raw) (bG rid i an.vars) o (cC st1.tmps) st1.mem rs=some out)
   (hg: ∀j want,o.guard=some (j,want)->∃d,(ops[j]?).bind (·.dst)=some d/\st.tmps[d]?=some (.lit (.bool want))):
   wR P C an tk rid ops o i rs st {tmps:=nM st1.tmps o.dst out.v,mem:=out.apply st1.mem} (some (out.tr (eE o.op) rs i o.op st1.mem))
 |skip (st1:St) (hst:st1.mem=st.mem/\∀t:Nat,st1.tmps[t]?=st.tmps[t]?) (j:Nat) (want:Bool) (d:Nat) (hg:o.guard=some (j,want)) (hd:(ops[j]?).bind (·.dst)=some d)
   (h:st.tmps[d]?=some (.lit (.bool (!want)))\/∃x,st.tmps[d]?=some (.lit (.tuple x))):wR P C an tk rid ops o i rs st {tmps:=nM st1.tmps o.dst (.lit undef),mem:=st1.mem} none
theorem R8{tmps:List AV}{d:Nat}{v:AV}(h:tmps[d]?=some v): ∀t:Nat,(tmps.set d v)[t]?=tmps[t]?:=by
 intro t;by_cases e:t=d
 ·subst e;rw[yt (yd.1 h).1,h]
 ·rw[yo (λx=>e x.symm)]
variable {R:Type}
theorem K3{h:Option Int}{v:AV}{k:AV->Option R}{r:R}(H:AG h v k=some r):k v=some r:=by
 unfold AG at H;split at H
 ·exact H
 ·split at H
  ·rw[aA]at H;rw[decide_eq_true_eq]at H;rw[H.1];exact H.2
  ·rename_i x _ b;cases J:decide (x=0)with
   |true=>
    rw[J]at H;simp only[yg]at H;rw[aA]at H;cases b with
    |false=>exact H.2
    |true=>simp at H
   |false=>
    rw[J]at H;simp only[yh]at H;rw[aA]at H;cases b with
    |true=>exact H.2
    |false=>simp at H
  ·exact H
theorem I9{C:bX}{an:nB}{tk:Bool}{rid:Nat}{ops:Array Oper}{o:Oper}{rest:List Oper}{i rs:Nat}{st:St}{tr:List Tr}{k:St->List Tr->Option R}{r:R}
  (h:vM P C an tk rid (ops.toList.map (·.dst)) (o::rest) i rs st tr k=some r):
  ∃K t,wR P C an tk rid ops o i rs st K t/\vM P C an tk rid (ops.toList.map (·.dst)) rest (i+1) (bif eE o.op then rs+1 else rs) K (t.toList++tr) k=some r:=by
 simp only[vM,bA,d8]at h
 have hds: ∀{j:Nat} {d:Nat},(ops.toList.map (·.dst))[j]?=some (some d)->(ops[j]?).bind (·.dst)=some d:=by
  intro j d hj;rw[yg1]at hj;obtain⟨x,hx,hd⟩:=ye.1 hj;rw[yq1]at hx;rw[hx];exact hd
 have U: ∀(J:St),(J.mem=st.mem/\∀t:Nat,J.tmps[t]?=st.tmps[t]?)->(∀j H,o.guard=some (j,H)->∃d,(ops[j]?).bind (·.dst)=some d/\st.tmps[d]?=some (.lit (.bool H)))->
   guardB (bif eE o.op then Aa J.mem rs else true) ((Ii P C (bG rid i an.own) tk (bG rid i an.boxed) (bG rid i an.raw) (bG rid i an.vars) o (cC J.tmps) J.mem rs).bind λout=>
    AG (CZ rid i an.hint) out.v λv=>vM P C an tk rid (ops.toList.map (·.dst)) rest (i+1) (bif eE o.op then rs+1 else rs) {tmps:=nM J.tmps o.dst v,mem:=out.apply J.mem} (out.tr (eE o.op) rs i o.op J.mem::tr) k)=some r->
   ∃K t,wR P C an tk rid ops o i rs st K t/\vM P C an tk rid (ops.toList.map (·.dst)) rest (i+1) (bif eE o.op then rs+1 else rs) K (t.toList++tr) k=some r:=by
  intro J W O h;rw[aA]at h;obtain⟨hr,h⟩:=h;rw[bind_some]at h;obtain⟨out,hout,h⟩:=h;have h:=K3 h;refine⟨_,_,.run out J W (λhm=>?_) hout O,by simpa using h⟩;rw[hm]at hr;rw[<-W.1];exact hr
 have M: ∀(J:St),(J.mem=st.mem/\∀t:Nat,J.tmps[t]?=st.tmps[t]?)->∀(j:Nat) (H:Bool) (d:Nat),o.guard=some (j,H)->(ops[j]?).bind (·.dst)=some d->(st.tmps[d]?=some (.lit (.bool (!H)))\/∃x,st.tmps[d]?=some (.lit (.tuple x)))->
   vM P C an tk rid (ops.toList.map (·.dst)) rest (i+1) (bif eE o.op then rs+1 else rs) {tmps:=nM J.tmps o.dst (.lit undef),mem:=J.mem} tr k=some r->
   ∃K t,wR P C an tk rid ops o i rs st K t/\vM P C an tk rid (ops.toList.map (·.dst)) rest (i+1) (bif eE o.op then rs+1 else rs) K (t.toList++tr) k=some r:=by
  intro J W j H d O hd hh h;exact⟨_,_,.skip J W j H d O hd hh,by simpa using h⟩
 have N: ∀{d:Nat} {v:AV},st.tmps[d]?=some v->(({st with tmps:=st.tmps.set d v}:St).mem=st.mem/\∀t:Nat,({st with tmps:=st.tmps.set d v}:St).tmps[t]?=st.tmps[t]?):=λh=>⟨rfl,R8 h⟩
 split at h
 ·rename_i O;exact U st ⟨rfl,λ_=>rfl⟩ (λj H h=>by rw[O]at h;cases h) h
 ·rename_i j H O;split at h
  ·rename_i d hd;have V:=hds hd;split at h
   ·rename_i b Y;cases b with
    |true=>
     simp only[yg]at h;cases H with
     |true=>simp only[yg,yh]at h;exact U _ (N Y) (λj' Z h'=>by rw[O]at h';obtain⟨rfl,rfl⟩:=Prod.mk.inj (ya h');exact⟨d,V,Y⟩) h
     |false=>simp only[yg,yh]at h;exact M _ (N Y) j false d O V (.inl Y) h
    |false=>
     simp only[yh]at h;cases H with
     |true=>simp only[yg,yh]at h;exact M _ (N Y) j true d O V (.inl Y) h
     |false=>simp only[yg,yh]at h;exact U _ (N Y) (λj' Z h'=>by rw[O]at h';obtain⟨rfl,rfl⟩:=Prod.mk.inj (ya h');exact⟨d,V,Y⟩) h
   ·rename_i x hx;exact M st ⟨rfl,λ_=>rfl⟩ j H d O V (.inr ⟨x,hx⟩) h
   ·simp at h
  ·simp at h
theorem SR.same{G:Gh}{w:World}{st H:St}{a:Act}(h:SR G w st a)(J:H.mem=st.mem/\∀t:Nat,H.tmps[t]?=st.tmps[t]?):SR G w H a:=by
 refine⟨by rw[J.1];exact h.memr,?_,λj x N=>h.tmps j x (by rw[<-J.2];exact N),h.defers⟩;rw[<-h.len];rcases Nat.lt_trichotomy H.tmps.length st.tmps.length with K|M|K
 ·have:=J.2 H.tmps.length;rw[yd1 (ya1 _),yf K]at this;cases this
 ·exact M
 ·have:=J.2 st.tmps.length;rw[yd1 (ya1 _),yf K]at this;cases this
theorem SR.lit{G:Gh}{w:World}{st:St}{a:Act}(h:SR G w st a){d:Nat}{v:Value}(K:st.tmps[d]?=some (.lit v)):a.tmps[d]?=some v:=by
 have J:d<a.tmps.size:=by rw[<-h.len];exact(yd.1 K).1
 rcases h.tmps d _ K with H|H
 ·simp[gK]at H
 ·have:=H.lit_inv;rw[yp,yb2 J]at this;rw[yb2 J];simpa using this
theorem wR.sound{C:bX}(hC:kW P C){an:nB}{tk:Bool}{rid:Nat}{ops:Array Oper}{o:Oper}{i rs:Nat}{st V:St}{t:Option Tr}{G:Gh}{w:World}{a:Act}(hi:ops[i]?=some o)
  (h:wR P C an tk rid ops o i rs st V t) (hS:SR G w st a) (K:Act->World->Prop) (Q:Exit->Act->World->Prop) (hK: ∀G' U a',c5 G G'->Ev G w U->SR G' U V a'->K a' U):wpOp P ops Q i K a w:=by
 unfold wpOp;simp only[hi];cases h with
 |run out st1 M O ho hg=>
  have H:=hS.same M;have hw:Region.wanted o (yielded ops a.tmps)=true:=by
   unfold Region.wanted;cases hgo:o.guard with
   |none=>rfl
   |some q=>
    obtain⟨j,J⟩:=q;obtain⟨d,Z,W⟩:=hg j J hgo;have:=hS.lit W;simp[yielded,Z,this]
  rw[if_pos hw];left;exact QH H.memr (λhm=>by rw[M.1];exact P3.1 (O hm)) H.eval (λhc hf ha hcv=>ME hC H.memr hc hf ha hcv) ho K Q
   (λG' U cv hv Y N hM'=>hK G' U _ Y N (H.put Y N hv hM'))
 |skip st1 M j J d hg Z h=>
  have H:=hS.same M;have hw:Region.wanted o (yielded ops a.tmps)=false:=by
   unfold Region.wanted;simp only[hg];rcases h with W|⟨x,W⟩
   ·have:=hS.lit W;cases J<;>simp[yielded,Z,this]
   ·have:=hS.lit W;simp[yielded,Z,this]
  rw[hw];simp only[yr2,if_false];exact hK G w _ (c5.refl G) (Ev.refl G w) (H.put (c5.refl G) (Ev.refl G w) (.lit _ rfl) H.memr)
theorem Gi{C:bX}(hC:kW P C){an:nB}{tk:Bool}{rid:Nat}{ops:Array Oper}{k:St->List Tr->Option R}{r:R}{Q:Exit->Act->World->Prop}{G0:Gh}{w0:World}{old:List (Option Bool)}:
  ∀{rest:List Oper} {i rs:Nat} {st:St} {tr:List Tr} {G:Gh} {w:World} {a:Act},ops.toList.drop i=rest->vM P C an tk rid (ops.toList.map (·.dst)) rest i rs st tr k=some r->SR G w st a->FB G0 w0 old G w->
   (∀H K V J M,k H K=some r->SR V J H M->FB G0 w0 old V J->Q .normal M J)->wpOps P ops Q (List.range' i rest.length) a w
 | [],i,rs,st,tr,G,w,a,U,h,hS,hI,O=>by
  simp only[vM]at h;exact O st tr G w a h hS hI
 |o::rest,i,rs,st,tr,G,w,a,U,h,hS,hI,O=>by
  obtain⟨H,t,W,Z⟩:=I9 h;have Y:ops[i]?=some o:=by
   have:(ops.toList.drop i)[0]?=some o:=by rw[U];rfl
   rw[ye1,yw1,yq1]at this;exact this
  rw[yz,List.range'_succ,wpOps_cons];refine W.sound hC Y hS _ _ (λV J M hg he N=>?_);exact Gi hC (by rw[<-List.drop_drop,U];rfl) Z N (hI.step hg he) O
end
end Go.Ab
end
section
namespace Go.Ab
variable [cF]
theorem yL{p:Nat->Prop}(h: ∃n,p n): ∃n,p n/\∀m,p m->n≤m:=by
 obtain⟨n,hn⟩:=h
 induction n using Nat.strongRecOn with
 |_ n K=>
  by_cases hm: ∃m,m<n/\p m
  ·obtain⟨m,H,hm⟩:=hm;exact K m H hm
  ·exact⟨n,hn,λm J=>Nat.le_of_not_lt λH=>hm ⟨m,H,J⟩⟩
section
variable {P:Program}
theorem JJ{c:Code}{Q:Exit->Act->World->Prop}{a:Act}{w:World}(I:Nat->Act->World->Prop){n:Nat}(V:I n a w)
  (J: ∀n a w,I n a w->c.wp P (Exit.then (λM N=> ∃m,m<n/\I m M N) Q) a w):(Code.loop c).wp P Q a w:=by
 refine wp_loop (λa w=> ∃n,I n a w) (λa w=>Classical.epsilon λn=>I n a w/\∀m,I m a w->n≤m) ⟨n,V⟩ λa w hI=>?_;have K:=Classical.epsilon_spec (yL hI);refine wp_mono (J _ a w K.1) λe M N U=>?_;cases e<;>try exact U
 obtain⟨m,O,hm⟩:=U;have H:=Classical.epsilon_spec (yL (p:=λn=>I n M N) ⟨m,hm⟩);exact⟨⟨m,hm⟩,Nat.lt_of_le_of_lt (H.2 m hm) O⟩
def Ex.to:Ex->Exit
 | .normal=> .normal
 | .exit id=> .exit id
 | .ret=> .ret
 | .goto l=> .goto l
theorem wE: ∀{live:List Nat} {vs:List AV} {i j:Nat},(bP live vs i)[j]?=(vs[j]?).map λv=>bif eC (i+j) live then v else .goneV
 |live,[],i,j=>by simp[bP]
 |live,v::r,i,0=>by simp[bP]
 |live,v::r,i,j+1=>by simp only[bP,ym1];rw[wE (vs:=r),show i+1+j=i+(j+1) by omega]
theorem Gw{G0:Gh}{w0:World}{keep:Bool}{old:List (Option Bool)}{live:List Nat}{st K:St}{G:Gh}{w:World}{a:Act}(h:LW keep old live st=some K)(hS:SR G w st a)(hI:FB G0 w0 old G w):
  ∃V,SR V w K a/\FB G0 w0 old V w:=by
 unfold LW at h;obtain⟨q,hq,rfl⟩:=ye.1 h;obtain⟨f,V,G2,hr,hm,N,O,hM,M,J,hk,_,_⟩:=Ed hS.memr hq;refine⟨G2,⟨hM,?_,λj x Z=>?_,hS.defers⟩,⟨hI.ev,hm.trans hI.mine,fun β B o h=>by rw[N];exact hI.prot β B o h,fun β B o h=>hI.new β B o (by rw[N]at h;exact h),λj k hj L hL=>by obtain⟨y,_,_,h⟩:=hk j k hj;exact h L (hI.keep j k hj L hL)⟩⟩
 ·simp only[hr,fA,yk1];rw[<-hS.len];have: ∀(vs:List AV) i,(bP live vs i).length=vs.length:=by
   intro vs;induction vs with
   |nil=>intro i;rfl
   |cons v r ih=>intro i;simp[bP,ih]
  exact this _ _
 ·simp only[hr]at Z;obtain⟨y,Y,rfl⟩:=r7 Z;have H:=J j y;rw[wE]at Y H;obtain⟨z,W,rfl⟩:=ye.1 Y;rw[W]at H;cases U:eC (0+j) live with
  |false=>left;rfl
  |true=>
   simp only[yg];rcases hS.tmps j z W with h|h
   ·left;unfold gK at h;split at h
    ·rfl
    ·cases h
   ·right;rw[U]at H;exact(H _ rfl h).ren (l:=true) M (fun β B o _ hb=>by rw[N,<-O];exact hb) (λ_=>rfl)
theorem KE{G:Gh}{w:World}{mem mem':aK}{s:AV}{n c:Nat}(hM:aH G w mem)(h:GA mem s n c=some mem'): ∃M,c5 G M/\aH M w mem':=by
 unfold GA at h;split at h
 ·rename_i b g;rw[bind_some]at h;obtain⟨N,H,h⟩:=h;split at h
  ·rename_i e xs hs J;obtain⟨r,hr,rfl⟩:=ye.1 h;have K:mem[b]?=some (some N):=by
    unfold boxO? at H;split at H
    ·rename_i x K;cases hc:Nat.beq x.gen g&&x.row.isOwn with
     |true=>rw[hc]at H;obtain rfl:=ya H;exact K
     |false=>rw[hc]at H;cases H
    ·cases H
   have O:0<N.row.len:=by
    rw[J];unfold pJ at hr;rw[bind_some]at hr;obtain⟨p,U,_⟩:=hr;have:=(yd.1 U).1;show 0<xs.length;omega
   obtain⟨o,a0,W,V,hm⟩:=(hM.box b N K).loc;cases o with
   |none=>have:=hm.1;omega
   |some B=>
    obtain⟨M,v,_,_,ht,_⟩:=wZ hM K J ⟨_,W,rfl⟩ hr;exact⟨M,ht.gle,ht.memr⟩
  ·cases h
 ·cases h
theorem Kw{G:Gh}{w:World}{mem mem':aK}{off:Nat}{p:AV}(hM:aH G w mem)(h:CM mem off p=some mem'): ∃G',c5 G G'/\aH G' w mem':=by
 unfold CM at h;split at h
 ·rename_i b g i c;rw[bind_some]at h;obtain⟨x,hbx,h⟩:=h;obtain⟨W,hge⟩:=box?_some hbx;split at h
  ·rename_i e cs H;split at h
   ·rename_i Y V hc;obtain⟨y,hy,rfl⟩:=ye.1 h;have hb:=hM.box b x W;obtain⟨o,a0,U,M,hm⟩:=hb.loc
    refine⟨_,c5.put (b:=b) (g:=x.gen) (.inr U),hM.upd (x':={gen:=x.gen,frz:=x.frz,row:= .cells e (cs.set (i*e+c+off) (.ms Y V 0 y.row.len))}) (Ev.refl G w) (yd.1 W).1 (.inr U)
     (Iq.plain rfl (λ_ _=>rfl) λB hB hO=>hM.other_ne W ⟨_,U,hB⟩ hO rfl) (λg' Z=>hM.gens b x g' W Z) ?_⟩
    rw[H]at U hm M;refine⟨by have:=hb.e;rw[H]at this;exact this,o,a0,by rw[Gh.put_self,H];simp only[aZ.e,aZ.len,yt2],M,?_⟩;cases o with
    |none=>exact absurd hm.2 (by simp[aZ.isCells])
    |some B=>
     obtain⟨m1,m2,m3,m4,m5⟩:=hm;refine⟨m1,m2,m3,⟨by rw[yt2];exact m4.1,λj z K=>?_⟩,m5⟩;have O:c5 G (G.put b x.gen ⟨some B,x.row.e,x.row.len,a0⟩):=c5.put (.inr (by rw[H];exact U));have hzz:(i*e+c+off=j/\z= .ms Y V 0 y.row.len)\/cs[j]?=some z:=by
      by_cases ej:i*e+c+off=j
      ·subst ej;rw[yt (yd.1 hc).1]at K;exact .inl ⟨rfl,(ya K).symm⟩
      ·rw[yo ej]at K;exact .inr K
     rcases hzz with ⟨rfl,rfl⟩|K
     ·obtain⟨v,hv,h1,hr⟩:=m4.2 _ _ hc;refine⟨v,hv,h1,VR.mono O (Ev.refl G w) ?_⟩;rcases hM.at_msw hy hr with ⟨B',a',cap,rfl,N,J,ha',hf,_⟩|⟨rfl,hn,_,a',J⟩
      ·have:=VR.ms (G:=G) (w:=w) Y V 0 y.row.len cap _ B' J rfl N (by simp) (by simpa using hf);simpa using this
      ·rw[hn];exact .msNil Y V _ J rfl
     ·obtain⟨v,hv,h1,hr⟩:=m4.2 _ _ K;exact⟨v,hv,h1,VR.mono O (Ev.refl G w) hr⟩
   ·obtain rfl:=ya h;exact⟨G,c5.refl G,hM⟩
  ·cases h
 ·cases h
theorem Bg{w:World}{tmps:List AV}: ∀{l:List (Operand×Nat×Operand×Nat)} {G:Gh} {mem mem':aK},aH G w mem->CO tmps l mem=some mem'->∃V,c5 G V/\aH V w mem'
 | [],G,mem,mem',hM,h=>by obtain rfl:=ya h;exact⟨G,c5.refl G,hM⟩
 |q::l,G,mem,mem',hM,h=>by
  simp only[CO]at h;rw[bind_some]at h;obtain⟨J,H,h⟩:=h;have: ∃U,c5 G U/\aH U w J:=by
   unfold My at H;rw[bind_some]at H;obtain⟨p,_,H⟩:=H;cases W:Nat.beq q.2.2.2 999 with
   |true=>rw[W]at H;exact Kw hM H
   |false=>
    rw[W,yh]at H;rw[bind_some]at H;obtain⟨s,_,H⟩:=H;rw[bind_some]at H;obtain⟨v,_,H⟩:=H;split at H
    ·rw[aA]at H;exact KE hM H.2
    ·cases H
  obtain⟨U,M,K⟩:=this;obtain⟨Y,N,O⟩:=Bg K h;exact⟨Y,M.trans N,O⟩
theorem A4{G0:Gh}{w0:World}{old:List (Option Bool)}{an:nB}{rid:Nat}{st K:St}{G:Gh}{w:World}{a:Act}(h:z5 an rid old st=some K)(hS:SR G w st a)(hI:FB G0 w0 old G w):
  ∃J,SR J w K a/\FB G0 w0 old J w:=by
 unfold z5 at h;split at h
 ·obtain rfl:=ya h;exact⟨G,hS,hI⟩
 ·rename_i q hq;rw[bind_some]at h;obtain⟨mem1,M,h⟩:=h;obtain⟨Z,W,rfl⟩:=ye.1 h;obtain⟨J,hG⟩:=Ew hS.memr M;obtain⟨G2,N,V⟩:=Bg hG.memr W
  have O:FB G0 w0 old J w:=⟨hI.ev,hG.mine.trans hI.mine,fun β B o h=>by rw[hG.prot];exact hI.prot β B o h,fun β B o h=>hI.new β B o (by rw[hG.prot]at h;exact h),λj k hj L hL=>by
   rw[hG.loc j 0 (yd.1 hj).1];exact hI.keep j k hj L hL⟩
  refine⟨G2,⟨V,?_,λj x hx=>?_,hS.defers⟩,O.step N (Ev.refl J w)⟩
  ·have: ∀(vs:List AV) i,(bP q.1 vs i).length=vs.length:=by
    intro vs;induction vs with
    |nil=>intro i;rfl
    |cons v r ih=>intro i;simp[bP,ih]
   rw[<-hS.len];exact this _ _
  ·have H:=hG.vals j x;rw[wE]at hx H;obtain⟨z,Y,rfl⟩:=ye.1 hx;rw[Y]at H;cases U:eC (0+j) q.1 with
   |false=>left;rfl
   |true=>
    simp only[yg];rcases hS.tmps j z Y with h|h
    ·exact .inl h
    ·rw[U]at H;exact .inr ((H _ rfl h).mono N (Ev.refl J w))
variable {R:Type}
def FG(P:Program)(C:bX)(an:nB):Prop:= ∀(R:Type) (rid:Nat) (ops:Array Oper) (st:St) (k:St->Option R) (r:R) (G0:Gh) (w0:World) (old:List (Option Bool)) (G:Gh) (w:World) (a:Act) (Q:Exit->Act->World->Prop),
 jM P C an rid ops true st k=some r->SR G w st a->FB G0 w0 old G w->(∀st' G' w' a',k st'=some r->SR G' w' st' a'->FB G0 w0 old G' w'->Q .normal a' w')->(Code.region rid ops true).wp P Q a w
theorem Fp{m:aK}{n b:Nat}{x:bK}:(m++List.replicate n none)[b]?=some (some x)↔m[b]?=some (some x):=by
 by_cases H:b<m.length
 ·rw[yq H]
 ·rw[yx (by omega),yu1];constructor
  ·intro h;split at h<;>simp at h
  ·intro h;rw[yd1 (by omega)]at h;cases h
theorem SR.widen{G:Gh}{w:World}{st:St}{a:Act}(h:SR G w st a)(n:Nat):SR G w {st with mem:=st.mem++List.replicate n none} a:=
 ⟨h.memr.congr λb x=>Fp,h.len,h.tmps,h.defers⟩
theorem SR.trim{G:Gh}{w:World}{st:St}{a:Act}(h:SR G w st a):SR G w {st with mem:=trim st.mem} a:=
 ⟨h.memr.congr λb x=>K9,h.len,h.tmps,h.defers⟩
theorem sA{C:bX}(hC:kW P C){an:nB}(hD:FG P C an){rid:Nat}{ops:Array Oper}{H:Bool}{st:St}{k:St->Option R}{r:R}{G0:Gh}{w0:World}{old:List (Option Bool)}{G:Gh}{w:World}{a:Act}
  {Q:Exit->Act->World->Prop} (h:jM P C an rid ops H st k=some r) (hS:SR G w st a) (hI:FB G0 w0 old G w) (W: ∀J O K N,k J=some r->SR O K J N->FB G0 w0 old O K->Q .normal N K):
  (Code.region rid ops H).wp P Q a w:=by
 cases H with
 |true=>exact hD R rid ops st k r G0 w0 old G w a Q h hS hI W
 |false=>
  unfold jM at h;apply wp_region
  have:=Gi (Q:=Q) (G0:=G0) (w0:=w0) (old:=old) hC (ops:=ops) (rest:=ops.toList) (i:=0) (by simp) h (hS.widen _) hI (λJ Y O K N M U V=>by
   rw[aA]at M
   exact W _ O K N M.2 U.trim V)
  rw[List.range_eq_range'];simpa using this
theorem LP{α:Type}{a b:Option α}{r:α}(h:amb a b=some r):a=some r/\b=some r:=by
 unfold amb at h;split at h
 ·rename_i e;exact⟨h,e ▸ h⟩
 ·cases h
theorem VR.unk_inv{G:Gh}{w:World}{v:Value}(h:VR G w (.imm true (.lit (.bool false))) v): ∃b,v= .bool b:=by
 cases h with
 |imm _ _ _ _ hs=>cases hs
 |unkB b=>exact⟨b,rfl⟩
theorem KT{C:bX}(hC:kW P C){an:nB}(hD:FG P C an){n:Nat}{old:List (Option Bool)}{G0:Gh}{w0:World}: ∀(c:Code) {W:Nat} {st:St} {k:Ex->St->Option R} {r:R} {G:Gh} {w:World} {a:Act} {Q:Exit->Act->World->Prop},
  cK P C an n old c W st k=some r->SR G w st a->FB G0 w0 old G w->(∀e J G' V Z,k e J=some r->SR G' V J Z->FB G0 w0 old G' V->Q e.to Z V)->c.wp P Q a w:=by
 suffices H: ∀(N:Nat) (c:Code),SizeOf.sizeOf c<N->∀{W:Nat} {st:St} {k:Ex->St->Option R} {r:R} {G:Gh} {w:World} {a:Act} {Q:Exit->Act->World->Prop},
  cK P C an n old c W st k=some r->SR G w st a->FB G0 w0 old G w->(∀e J G' V Z,k e J=some r->SR G' V J Z->FB G0 w0 old G' V->Q e.to Z V)->c.wp P Q a w from λc=>H _ c (yy2 _)
 intro N
 induction N with
 |zero=>intro c hN;exact absurd hN (Nat.not_lt_zero _)
 |succ N IH=>
 intro c hN;cases c with
 |skip=>intro W st k r G w a Q h hS hI Y;exact wp_skip (Y .normal st G w a h hS hI)
 |ret=>intro W st k r G w a Q h hS hI Y;exact wp_ret (Y .ret st G w a h hS hI)
 |exit id=>intro W st k r G w a Q h hS hI Y;exact wp_exit (Y (.exit id) st G w a h hS hI)
 |seq x y=>
  have ihx:= @IH x (by simp at hN;omega);have ihy:= @IH y (by simp at hN;omega);intro W st k r G w a Q h hS hI Y;simp only[cK]at h;refine wp_seq (ihx h hS hI λe J G' V Z U K O=>?_);cases e with
  |normal=>exact ihy U K O Y
  |exit id=>exact Y (.exit id) J G' V Z U K O
  |ret=>exact Y .ret J G' V Z U K O
  |goto l=>exact Y (.goto l) J G' V Z U K O
 |cond c x y=>
  have ihx:= @IH x (by simp at hN;omega);have ihy:= @IH y (by simp at hN;omega);intro W st k r G w a Q h hS hI Y;simp only[cK]at h;split at h
  ·rename_i t ht;have hc:=(hS.eval c _ ht).lit_inv;cases t with
   |true=>exact wp_cond_true hc (ihx h hS hI Y)
   |false=>exact wp_cond_false hc (ihy h hS hI Y)
  ·rename_i ht;obtain⟨b,hc⟩:=(hS.eval c _ ht).unk_inv;obtain⟨h1,h2⟩:=LP h;cases b with
   |true=>exact wp_cond_true hc (ihx h1 hS hI Y)
   |false=>exact wp_cond_false hc (ihy h2 hS hI Y)
  ·simp at h
 |block id c=>
  have ih:= @IH c (by simp at hN;omega);intro W st k r G w a Q h hS hI Y;simp only[cK]at h;refine wp_block (ih h hS hI λe J G' V Z U K O=>?_);cases e with
  |normal=>exact Y .normal J G' V Z U K O
  |ret=>exact Y .ret J G' V Z U K O
  |goto l=>exact Y (.goto l) J G' V Z U K O
  |exit j=>
   simp only at U;cases hj:Nat.beq j id with
   |true=>
    rw[hj]at U;simp only[yg]at U;obtain rfl:=bN.1 hj;simp only[Ex.to,Exit.inBlock,if_true];exact Y .normal J G' V Z U K O
   |false=>
    rw[hj]at U;simp only[yh]at U;have hne: ¬j=id:=λh=>by rw[bN.2 h]at hj;cases hj
    simp only[Ex.to,Exit.inBlock,hne,if_false];exact Y (.exit j) J G' V Z U K O
 |loop c=>
  have ih:= @IH c (by simp at hN;omega);intro W st k r G w a Q h hS hI Y;simp only[cK]at h;rw[bind_some]at h;obtain⟨live,hl,h⟩:=h;refine JJ (λm a w=> ∃st G,kK (eC W an.keep) old live (λst k=>cK P C an n old c W st k) m st k=some r/\SR G w st a/\FB G0 w0 old G w) ⟨st,G,h,hS,hI⟩ ?_
  rintro m a w ⟨st,G,h,hS,hI⟩
  cases m with
  |zero=>simp[kK]at h
  |succ m=>
   simp only[kK]at h;rw[bind_some]at h;obtain⟨st1,h1,h⟩:=h;obtain⟨G1,hS1,hI1⟩:=Gw h1 hS hI;refine ih h hS1 hI1 λe J G' V Z U K O=>?_;cases e with
   |normal=>exact⟨m,yy2 _,J,G',U,K,O⟩
   |exit id=>exact Y (.exit id) J G' V Z U K O
   |ret=>exact Y .ret J G' V Z U K O
   |goto l=>exact Y (.goto l) J G' V Z U K O
 |region rid ops draw=>
  intro W st k r G w a Q h hS hI Y;simp only[cK]at h;rw[bind_some]at h;obtain⟨st1,h1,h⟩:=h;obtain⟨G1,hS1,hI1⟩:=A4 h1 hS hI;exact sA hC hD h hS1 hI1 (λJ G' V Z U K O=>Y .normal J G' V Z U K O)
 |goto l=>intro W st k r G w a Q h hS hI Y;exact wp_goto (Y (.goto l) st G w a h hS hI)
 |scope c=>
  intro W st k r G w a Q h hS hI Y;cases c with
  |seq x y=>cases x with
   |region r1 o1 d1=>cases y with
    |seq x2 y2=>cases x2 with
     |region r2 o2 d2=>cases y2 with
      |seq x3 b=>cases x3 with
       |label l=>
        simp only[cK]at h;have hsz:SizeOf.sizeOf b<N:=by simp at hN;omega
        have ih:= @IH b hsz;rw[bind_some]at h;obtain⟨st1,h1,h⟩:=h;obtain⟨G1,hS1,hI1⟩:=A4 h1 hS hI;obtain⟨I,hIdef⟩: ∃I:Nat->Act->World->Prop,I=λm a w=> ∃st G live,dB (bW l) an.live=some live/\kK (eC (bW l) an.keep) old live (λst k=>cK P C an n old b (bW l) st (Md l k)) m st k=some r/\SR G w st a/\FB G0 w0 old G w:=⟨_,rfl⟩
        have go: ∀(a:Act) (w:World),(∃m,I m a w)->b.wp P (Exit.jump l (λZ V=>(∃m,I m Z V)/\(Classical.epsilon λm=>I m Z V/\∀j,I j Z V->m≤j)<(Classical.epsilon λm=>I m a w/\∀j,I j a w->m≤j)) Q) a w:=by
         intro a w hJ;have hmin:=Classical.epsilon_spec (yL hJ);generalize (Classical.epsilon λm=>I m a w/\∀j,I j a w->m≤j)=M at hmin⊢
         obtain⟨hM,hle⟩:=hmin;rw[hIdef]at hM;obtain⟨st,G,live,hl,hit,hS,hI⟩:=hM;cases M with
         |zero=>simp[kK]at hit
         |succ M=>
          simp only[kK]at hit;rw[bind_some]at hit;obtain⟨st1,h1,hit⟩:=hit;obtain⟨G1,hS1,hI1⟩:=Gw h1 hS hI;refine ih hit hS1 hI1 λe J G' V Z U K O=>?_;cases e with
          |normal=>simp[Md]at U
          |exit id=>exact Y (.exit id) J G' V Z U K O
          |ret=>exact Y .ret J G' V Z U K O
          |goto l'=>
           simp only[Md]at U;cases hb:Nat.beq l' l with
           |false=>rw[hb]at U;simp at U
           |true=>
            rw[hb]at U;simp only[yg]at U;have hI2:I M Z V:=by rw[hIdef];exact⟨J,G',live,hl,U,K,O⟩
            have hmin':=Classical.epsilon_spec (yL (p:=λm=>I m Z V) ⟨M,hI2⟩);exact⟨bN.1 hb,⟨M,hI2⟩,Nat.lt_of_le_of_lt (hmin'.2 M hI2) (yy2 _)⟩
        refine wp_scope_jumps (rest:= .seq .skip b) l (λa w=> ∃m,I m a w) (λa w=>Classical.epsilon λm=>I m a w/\∀j,I j a w->m≤j) (by simp[findLabel]) ?_ (λa w hJ=>wp_seq (wp_skip (go a w hJ)));refine wp_seq (sA hC hD h hS1 hI1 λJ G' V Z U K O=>?_);rw[bind_some]at U;obtain⟨st2,h2,U⟩:=U;obtain⟨G2,hS2,hI2⟩:=A4 h2 K O;refine wp_seq (sA hC hD U hS2 hI2 λst3 G3 w3 a3 U hS3 hI3=>?_);rw[bind_some]at U;obtain⟨live,hl,U⟩:=U;have hJ: ∃m,I m a3 w3:=⟨n,by rw[hIdef];exact⟨st3,G3,live,hl,U,hS3,hI3⟩⟩
        refine wp_seq (wp_label ?_);refine wp_mono (go a3 w3 hJ) λe Z V U=>?_;cases e with
        |goto l'=>exact⟨U.1,U.2.1⟩
        |_=>exact U
       |_=>simp[cK]at h
      |_=>simp[cK]at h
     |_=>simp[cK]at h
    |_=>simp[cK]at h
   |_=>simp[cK]at h
  |_=>simp[cK]at h
 |_=>intro W st k r G w a Q h hS hI Y;simp[cK]at h
def RU(tmps:Array Value):ResultVar->Sem Value
 | .tmp t=>pure (tmps.getD t undef)
 | .cell c t=>do loadVar t (<-asAddr (tmps.getD c undef))
theorem Nx(fn:Func)(tmps:Array Value):results fn tmps=(do let vs<-fn.results.mapM (RU tmps);pure (if h:vs.size=1 then vs[0]else .tuple vs)):=by
 unfold results;congr 1
theorem AU{G:Gh}{w:World}{st:St}{a:Act}(hS:SR G w st a): ∀{rs:List ResultVar} {vs:List AV},Fz P st.tmps st.mem rs=some vs->
  ∃us:List Value,iW G w vs us/\(rs.mapM (RU a.tmps)).run P w= .ok us w
 | [],vs,h=>by
  simp[Fz]at h;subst h;exact⟨[],⟨rfl,λj y K=>by simp at K⟩,by simp⟩
 | .tmp t::rs,vs,h=>by
  simp only[Fz]at h;rw[bind_some]at h;obtain⟨v,Z,h⟩:=h;obtain⟨W,O,rfl⟩:=ye.1 h;obtain⟨us,hL,J⟩:=AU hS O;refine⟨a.tmps.getD t undef::us,⟨by simp[hL.1],λj y K=>?_⟩,?_⟩
  ·cases j with
   |zero=>simp at K;subst K;exact hS.get Z
   |succ j=>simpa using hL.2 j y (by simpa using K)
  ·rw[List.mapM_cons];simp only[RU,Sem.run_bind,Sem.run_pure,Result.andThen_ok,J]
 | .cell c t::rs,vs,h=>by
  simp only[Fz]at h;rw[bind_some]at h;obtain⟨x,Y,h⟩:=h;rw[bind_some]at h;obtain⟨o,N,h⟩:=h;obtain⟨W,O,rfl⟩:=ye.1 h;obtain⟨us,hL,J⟩:=AU hS O;have H:=hS.get Y;obtain⟨v,rd,rfl,cv,M,V⟩:=El hS.memr N H;refine⟨cv::us,⟨by simp[hL.1],λj y K=>?_⟩,?_⟩
  ·cases j with
   |zero=>simp at K;subst K;exact V
   |succ j=>simpa using hL.2 j y (by simpa using K)
  ·rw[List.mapM_cons];have:(RU a.tmps (.cell c t)).run P w= .ok cv w:=by
    have U: ∃p,a.tmps.getD c undef= .pointer (some p):=by
     unfold jY at N;split at N
     ·generalize a.tmps.getD c undef=z at H;cases H;exact⟨_,rfl⟩
     ·generalize a.tmps.getD c undef=z at H;cases H;exact⟨_,rfl⟩
     ·simp at N
    obtain⟨p,U⟩:=U;show Sem.run P (do loadVar t (<-asAddr (a.tmps.getD c undef))) w=_;rw[U]at M⊢
    simpa[Instr.loadAt,Instr.sureAddr,asAddr]using M
   simp only[Sem.run_bind,this,Result.andThen_ok,J,Sem.run_pure]
def pU(P:Program):Bool:=P.funcs.all fun fn=>!(fn.name== "runtime.NumGoroutine")
theorem BF{f:FuncId}{fn:Func}{H:Array Value}{w:World}(hf:P.funcs[f]?=some fn)(hn:pU P=true)(hb:fn.body.isSome=true):(callFunc f H).run P w= .ok (.enter f H) w:=by
 have J:(fn.name== "runtime.NumGoroutine")=false:=by
  unfold pU at hn;rw[Array.all_eq_true_iff_forall_mem]at hn;have:=hn fn (Array.mem_of_getElem? hf);simpa using this
 have K:fn.body.isNone=false:=by cases h:fn.body<;>simp_all
 unfold callFunc;simp only[Sem.run_bind,run_program,Result.andThen_ok,hf,J,K,yr2,if_false,Sem.run_pure]
end
end Go.Ab
end
section
namespace Go.Ab
variable [cF]
def Ag(S:List Nat)(mem mem':aK):Prop:= ∀b∈S,mem'[b]?=mem[b]?
theorem Ag.sub{S S':List Nat}{mem mem':aK}(h:Ag S mem mem')(hs: ∀b∈S',b∈S):Ag S' mem mem':=λb H=>h b (hs b H)
theorem box?_ag{mem mem':aK}{b g:Nat}(h:mem'[b]?=mem[b]?):box? mem' b g=box? mem b g:=by unfold box?;rw[h]
theorem HI{mem mem':aK}{b:Nat}(h:mem'[b]?=mem[b]?):o8 mem' b=o8 mem b:=by unfold o8;rw[h]
theorem AZ{α β:Type}{f J:α->Option (Bool×β×List Nat)}: ∀{xs:List α} {r:Bool×List β×List Nat},gO f xs=some r->(∀x q,f x=some q->(∀b∈q.2.2,b∈r.2.2)->J x=some q)->gO J xs=some r
 | [],r,h,_=>h
 |v::xs,r,h,hf=>by
  simp only[gO]at h⊢
  rw[bind_some]at h;obtain⟨a,U,h⟩:=h;rw[bind_some]at h;obtain⟨q,N,h⟩:=h;obtain rfl:=ya h;rw[hf v a U (λb H=>yz1 _ H),AZ N (λx K M O=>hf x K M (λb H=>ya2 _ (O b H)))];rfl
theorem CB{α β γ:Type}{f J:γ->α->Option (Bool×β×List Nat)}: ∀{ls:List γ} {xs:List α} {r:Bool×List β×List Nat},cD f ls xs=some r->(∀l x q,f l x=some q->(∀b∈q.2.2,b∈r.2.2)->J l x=some q)->cD J ls xs=some r
 | [],[],r,h,_=>h
 | [],v::xs,r,h,hf=>by simp[cD]at h
 |l::ls,[],r,h,hf=>by simp[cD]at h
 |l::ls,v::xs,r,h,hf=>by
  simp only[cD]at h⊢
  rw[bind_some]at h;obtain⟨a,O,h⟩:=h;rw[bind_some]at h;obtain⟨q,N,h⟩:=h;obtain rfl:=ya h;rw[hf l v a O (λb H=>yz1 _ H),CB N (λl x K U M=>hf l x K U (λb H=>ya2 _ (M b H)))];rfl
section
variable {P:Program}
theorem nI{k:IntKind}{b:Nat}{w:aL}{r:Bool×PV×List Nat}(h:bD.treeInts k b w=some r):b∈r.2.2:=by
 unfold bD.treeInts at h;split at h
 ·rw[aA]at h;obtain⟨_,h⟩:=h;obtain rfl:=ya h;simp
 ·rw[aA]at h;obtain⟨_,h⟩:=h;obtain⟨xs,_,rfl⟩:=ye.1 h;simp
 ·simp at h
theorem sX{f:LK->AV->Option (Bool×PV×List Nat)}{t:TypeId}{e b:Nat}{w:aL}{r:Bool×PV×List Nat}(h:bD.treeSl P f t e b w=some r):b∈r.2.2:=by
 unfold bD.treeSl at h;split at h
 ·rw[aA]at h;obtain⟨_,h⟩:=h;obtain rfl:=ya h;simp
 ·rw[aA]at h;obtain⟨_,h⟩:=h;rw[bind_some]at h;obtain⟨_,_,h⟩:=h;obtain⟨xs,_,rfl⟩:=ye.1 h;simp
 ·simp at h
theorem IZ{f M:LK->AV->Option (Bool×PV×List Nat)}{t:TypeId}{e b:Nat}{w:aL}{r:Bool×PV×List Nat}(h:bD.treeSl P f t e b w=some r)
  (hf: ∀l v q,f l v=some q->(∀b∈q.2.2,b∈r.2.2)->M l v=some q):bD.treeSl P M t e b w=some r:=by
 unfold bD.treeSl at h⊢
 split at h
 ·exact h
 ·rw[aA]at h⊢;obtain⟨Y,h⟩:=h;refine⟨Y,?_⟩;rw[bind_some]at h⊢;obtain⟨ls,J,h⟩:=h;refine⟨ls,J,?_⟩;obtain⟨q,W,rfl⟩:=ye.1 h;refine ye.2 ⟨q,AZ W (λvs q1 H O=>?_),rfl⟩;rw[bind_some]at H⊢;obtain⟨U,K,H⟩:=H;obtain⟨p,hp,rfl⟩:=ye.1 H;refine⟨U,CB K (λl x N h3 Z=>hf l x N h3 (λb V=>yj _ (O b (Z b V)))),H⟩
 ·simp at h
theorem KL{mem mem':aK}: ∀{n:Nat} {l:LK} {v:AV} {r:Bool×PV×List Nat},bD P mem n l v=some r->Ag r.2.2 mem mem'->bD P mem' n l v=some r
 |0,l,v,r,h,_=>by simp[bD]at h
 |n+1,l,v,r,h,hA=>by
  unfold bD at h⊢
  split at h<;>try exact h
  ·rename_i k b g;rw[bind_some]at h⊢;obtain⟨x,H,h⟩:=h;exact⟨x,by rw[box?_ag (hA b (nI h))];exact H,h⟩
  ·rename_i k b g o m;rw[bind_some]at h⊢;obtain⟨x,H,h⟩:=h;have M:=h;rw[bind_some]at h;obtain⟨w,K,h⟩:=h;exact⟨x,by rw[box?_ag (hA b (nI h))];exact H,M⟩
  ·rename_i t e b g;rw[bind_some]at h⊢;obtain⟨x,H,h⟩:=h;exact⟨x,by rw[box?_ag (hA b (sX h))];exact H,IZ h (λl v q J hs=>KL J (hA.sub hs))⟩
  ·rename_i t e b g o m;rw[bind_some]at h⊢;obtain⟨x,H,h⟩:=h;rw[bind_some]at h;obtain⟨w,K,h⟩:=h;refine⟨x,by rw[box?_ag (hA b (sX h))];exact H,?_⟩;rw[bind_some];exact⟨w,K,IZ h (λl v q J hs=>KL J (hA.sub hs))⟩
variable {mem mem':aK}
theorem boxO?_ag{b g:Nat}(h:mem'[b]?=mem[b]?):boxO? mem' b g=boxO? mem b g:=by unfold boxO?;rw[h]
theorem BD{b:Nat}(h:mem'[b]?=mem[b]?):yT mem' b=yT mem b:=by unfold yT;rw[h]
theorem Sy{n b g:Nat}{l:LK}{r:Bool×PV×List Nat}(h:bD P mem n l (.msw b g)=some r):b∈r.2.2:=by
 cases n with
 |zero=>simp[bD]at h
 |succ n=>
  unfold bD at h;cases l<;>simp only at h<;>first
   |(cases h;done)
   |(rw[bind_some]at h;obtain⟨x,_,h⟩:=h;exact nI h)
   |(rw[bind_some]at h;obtain⟨x,_,h⟩:=h;exact sX h)
theorem Tj{n b g o m:Nat}{l:LK}{r:Bool×PV×List Nat}(h:bD P mem n l (.ms b g o m)=some r):b∈r.2.2:=by
 cases n with
 |zero=>simp[bD]at h
 |succ n=>
  unfold bD at h;cases l<;>simp only at h<;>first
   |(cases h;done)
   |(rw[bind_some]at h;obtain⟨x,_,h⟩:=h;rw[bind_some]at h;obtain⟨_,_,h⟩:=h;exact nI h)
   |(rw[bind_some]at h;obtain⟨x,_,h⟩:=h;rw[bind_some]at h;obtain⟨_,_,h⟩:=h;exact sX h)
theorem GO{l:LK}{v:AV}{r:Bool×PV×List Nat}(h:kA P mem l v=some r)(hA:Ag r.2.2 mem mem'):kA P mem' l v=some r:=by
 have J: ∀b g,(v= .msw b g\/∃n,v= .ms b g 0 n)->b∈r.2.2:=by
  intro b g K;unfold kA at h;split at h
  ·rename_i q M;split at h
   ·rw[aA]at h;obtain⟨_,h⟩:=h;obtain rfl:=ya h;obtain⟨g',x,xs,H,_⟩:=Hu M;rcases K with rfl|⟨n,rfl⟩<;>rcases H with ⟨H,_⟩|⟨n',H,_⟩<;>cases H<;>simp
   ·cases h
  ·rcases K with rfl|⟨n,rfl⟩
   ·exact Sy h
   ·exact Tj h
 have hO:pM mem' v=pM mem v:=by
  unfold pM;split
  ·rename_i b g;simp only[boxO?_ag (hA b (J b g (.inl rfl)))]
  ·rename_i b g n;simp only[boxO?_ag (hA b (J b g (.inr ⟨n,rfl⟩)))]
  ·rfl
 unfold kA at h⊢
 rw[hO];split at h
 ·exact h
 ·exact KL h hA
theorem FE{t:TypeId}{v:AV}{r:Bool×PV×List Nat}(h:vL P mem t v=some r)(hA:Ag r.2.2 mem mem'):vL P mem' t v=some r:=by
 unfold vL at h⊢
 rw[bind_some]at h⊢;obtain⟨ls,H,h⟩:=h;refine⟨ls,H,?_⟩;rw[bind_some]at h⊢;obtain⟨q,M,h⟩:=h;refine⟨q,CB M (λl x q' N J=>GO N (hA.sub λb K=>?_)),h⟩;obtain⟨p,_,rfl⟩:=ye.1 h;exact J b K
theorem QO{vars:Bool}{t:TypeId}{vs:List AV}{r:aL×List Nat}(h:oL P vars mem t vs=some r)(hA:Ag r.2 mem mem'):oL P vars mem' t vs=some r:=by
 unfold oL at h⊢
 split at h
 ·exact h
 ·rw[bind_some]at h⊢;obtain⟨e,M,h⟩:=h;refine⟨e,M,?_⟩;cases vars with
  |true=>exact h
  |false=>
   simp only[yh]at h⊢
   obtain⟨q,J,rfl⟩:=ye.1 h;exact ye.2 ⟨q,AZ J (λv q' H K=>FE H (hA.sub K)),rfl⟩
theorem x8: ∀{ids:List Nat},Ag ids mem mem'->cA mem' ids=cA mem ids
 | [],_=>rfl
 |b::r,h=>by
  have H:=x8 (ids:=r) (h.sub λb J=>yj _ J);simp only[cA,h b (yn ..),H]
theorem B3{J:TypeId}{y:AV}{v:aL×List Nat}(h:view P J mem y=some v)(hA:Ag v.2 mem mem'):view P J mem' y=some v:=by
 unfold view at h⊢
 split at h<;>try exact h
 ·rename_i b g o n;have h':=h;rw[bind_some]at h⊢;obtain⟨x,H,h⟩:=h;obtain⟨w,hw,rfl⟩:=ye.1 h;exact⟨x,by rw[box?_ag (hA b (by simp))];exact H,h⟩
 ·rename_i b g;rw[bind_some]at h⊢;obtain⟨x,H,h⟩:=h;obtain rfl:=ya h;exact⟨x,by rw[box?_ag (hA b (by simp))];exact H,rfl⟩
theorem Rz{t:TypeId}{x:AV}{n:Nat×List Nat}(h:lenOf P t mem x=some n)(hA:Ag n.2 mem mem'):lenOf P t mem' x=some n:=by
 unfold lenOf at h⊢
 split at h
 ·exact h
 ·split at h<;>try exact h
  rename_i b g;obtain⟨x,H,rfl⟩:=ye.1 h;exact ye.2 ⟨x,by rw[box?_ag (hA b (by simp))];exact H,rfl⟩
 ·simp at h
variable {out:dI}
theorem RI{t:TypeId}{a:AV}(h:jY P t mem a=some out)(hA:Ag out.rd mem mem'):jY P t mem' a=some out:=by
 unfold jY at h⊢
 split at h
 ·exact h
 ·rename_i b g i c;rw[bind_some]at h⊢;obtain⟨x,H,h⟩:=h;refine⟨x,?_,h⟩;have:b∈out.rd:=by
   split at h
   ·rw[bind_some]at h;obtain⟨ag,_,h⟩:=h;cases ag with
    |true=>
     simp only[yg]at h;rw[bind_some]at h;obtain⟨n,_,h⟩:=h;rw[aA]at h;obtain⟨_,h⟩:=h;obtain rfl:=ya h;simp
    |false=>
     simp only[yh]at h;obtain⟨v,_,rfl⟩:=ye.1 h;simp
   ·rw[aA]at h;obtain⟨_,h⟩:=h;rw[aA]at h;obtain⟨_,h⟩:=h;obtain⟨v,_,rfl⟩:=ye.1 h;simp
   ·rw[bind_some]at h;obtain⟨y,_,h⟩:=h;obtain⟨v,_,rfl⟩:=ye.1 h;simp
   ·cases h
  rw[box?_ag (hA b this)];exact H
 ·simp at h
theorem Qn{t:TypeId}{a x:AV}(h:jV P t mem a x=some out)(hA:Ag out.rd mem mem'):jV P t mem' a x=some out:=by
 unfold jV at h⊢
 split at h
 ·rename_i b g i c;rw[bind_some]at h⊢;obtain⟨V,J,h⟩:=h;refine⟨V,?_,?_⟩
  ·have:b∈out.rd:=by
    rw[bind_some]at h;obtain⟨n,_,h⟩:=h;rw[aA]at h;obtain⟨_,h⟩:=h;split at h
    ·rw[aA]at h;obtain⟨_,h⟩:=h;obtain rfl:=ya h;simp
    ·split at h
     ·rw[aA]at h;obtain⟨_,h⟩:=h;obtain rfl:=ya h;simp
     ·simp at h
    ·rw[bind_some]at h;obtain⟨p,_,h⟩:=h;rw[bind_some]at h;obtain⟨q,_,h⟩:=h;rw[aA]at h;obtain⟨_,h⟩:=h;obtain rfl:=ya h;simp
    ·cases h
   rw[box?_ag (hA b this)];exact J
  ·rw[bind_some]at h⊢;obtain⟨n,hn,h⟩:=h;refine⟨n,hn,?_⟩;rw[aA]at h⊢;obtain⟨U,h⟩:=h;refine⟨U,?_⟩;split at h
   ·exact h
   ·exact h
   ·rw[bind_some]at h⊢;obtain⟨p,K,h⟩:=h;refine⟨p,K,?_⟩;rw[bind_some]at h⊢;obtain⟨q,O,h⟩:=h;have M:=h;rw[aA]at h;obtain⟨_,h⟩:=h;obtain rfl:=ya h;have H:Ag q.2.2 mem mem':=hA.sub λb N=>yj _ N;exact⟨q,FE O H,by rw[x8 H];exact M⟩
   ·exact h
 ·simp at h
theorem Ql{t:TypeId}{x:AV}{i:Int}(h:iY P t mem x i=some out)(hA:Ag out.rd mem mem'):iY P t mem' x i=some out:=by
 unfold iY at h⊢
 split at h
 ·rw[bind_some]at h⊢;obtain⟨s,hs,h⟩:=h;refine⟨s,hs,?_⟩;split at h<;>try exact h
  ·rename_i b g o n;rw[bind_some]at h⊢;obtain⟨J,H,h⟩:=h;refine⟨J,?_,h⟩;rw[aA]at h;obtain⟨_,h⟩:=h;obtain rfl:=ya h;rw[box?_ag (hA b (by simp))];exact H
  ·rename_i b g;rw[bind_some]at h⊢;obtain⟨J,H,h⟩:=h;refine⟨J,?_,h⟩;rw[aA]at h;obtain⟨_,h⟩:=h;obtain rfl:=ya h;rw[box?_ag (hA b (by simp))];exact H
 ·exact h
 ·simp at h
theorem PM{t:TypeId}{x:AV}{N K M:Option Int}(h:gL P t mem x N K M=some out)(hA:Ag out.rd mem mem'):gL P t mem' x N K M=some out:=by
 unfold gL at h⊢
 split at h
 ·exact h
 ·rw[bind_some]at h⊢;obtain⟨s,hs,h⟩:=h;refine⟨s,hs,?_⟩;split at h<;>try exact h
  ·rename_i b g o n;rw[bind_some]at h⊢;obtain⟨J,H,h⟩:=h;refine⟨J,?_,h⟩;rw[aA]at h;obtain⟨_,h⟩:=h;obtain⟨q,_,rfl⟩:=ye.1 h;rw[box?_ag (hA b (by simp))];exact H
  ·rename_i b g;rw[bind_some]at h⊢;obtain⟨J,H,h⟩:=h;refine⟨J,?_,h⟩;rw[aA]at h;obtain⟨_,h⟩:=h;obtain⟨q,_,rfl⟩:=ye.1 h;rw[box?_ag (hA b (by simp))];exact H
 ·rw[bind_some]at h⊢;obtain⟨s,hs,h⟩:=h;refine⟨s,hs,?_⟩;split at h
  ·rename_i b g c;rw[aA]at h⊢;obtain⟨O,h⟩:=h;refine⟨O,?_⟩;rw[bind_some]at h⊢;obtain⟨J,H,h⟩:=h;refine⟨J,?_,h⟩;split at h
   ·rw[aA]at h;obtain⟨_,h⟩:=h;obtain⟨q,_,rfl⟩:=ye.1 h;rw[box?_ag (hA b (by simp))];exact H
   ·simp at h
  ·simp at h
 ·simp at h
theorem N1{boxed vars:Bool}{t W:TypeId}{rs:Nat}{x y:AV}(h:iM P boxed vars t W mem rs x y=some out)(hA:Ag out.rd mem mem'):iM P boxed vars t W mem' rs x y=some out:=by
 unfold iM at h⊢
 rw[bind_some]at h⊢;obtain⟨et,O,h⟩:=h;refine⟨et,O,?_⟩;rw[bind_some]at h⊢;obtain⟨s,hs,h⟩:=h;refine⟨s,hs,?_⟩;rw[bind_some]at h⊢;obtain⟨bytes,U,h⟩:=h;refine⟨bytes,U,?_⟩;rw[bind_some]at h⊢;obtain⟨z,hz,h⟩:=h;refine⟨z,hz,?_⟩;rw[bind_some]at h⊢;obtain⟨N,J,h⟩:=h;have Z:=h;rw[aA]at h;obtain⟨Y,h⟩:=h;split at h
 ·refine⟨N,?_,Z⟩;rw[aA]at h;obtain⟨_,h⟩:=h;refine B3 J (hA.sub λb K=>?_);cases boxed with
  |true=>simp only[yg]at h;obtain⟨row,_,rfl⟩:=ye.1 h;exact K
  |false=>simp only[yh]at h;obtain⟨v,_,rfl⟩:=ye.1 h;exact K
 ·rename_i b g;have h1:=h;rw[bind_some]at h;obtain⟨V,H,h⟩:=h;have M:=h;rw[bind_some]at h;obtain⟨zv,_,h⟩:=h;rw[aA]at h;obtain⟨_,h⟩:=h;obtain rfl:=ya h;refine⟨N,B3 J (hA.sub λb K=>yj _ K),?_⟩;rw[aA];refine⟨Y,?_⟩;rw[bind_some];exact⟨V,by rw[box?_ag (hA b (yn ..))];exact H,M⟩
 ·rename_i b g o n;have h1:=h;rw[bind_some]at h;obtain⟨V,H,h⟩:=h;have M:=h;rw[bind_some]at h;obtain⟨xv,_,h⟩:=h;rw[bind_some]at h;obtain⟨zv,_,h⟩:=h;rw[aA]at h;obtain⟨_,h⟩:=h;obtain rfl:=ya h;refine⟨N,B3 J (hA.sub λb K=>yj _ K),?_⟩;rw[aA];refine⟨Y,?_⟩;rw[bind_some];exact⟨V,by rw[box?_ag (hA b (yn ..))];exact H,M⟩
 ·simp at h
theorem R3{t J:TypeId}{rs:Nat}{n:Int}(h:D9 P t J mem rs n=some out):D9 P t J mem' rs n=some out:=by
 unfold D9 at h⊢
 split at h
 ·rw[bind_some]at h⊢;obtain⟨O,H,h⟩:=h;refine⟨O,H,?_⟩;rw[bind_some]at h⊢;obtain⟨z,M,h⟩:=h;refine⟨z,M,?_⟩;split at h
  ·rw[bind_some]at h⊢;obtain⟨q,U,h⟩:=h;have V:=h;rw[bind_some]at h;obtain⟨e,_,h⟩:=h;rw[bind_some]at h;obtain⟨bytes,_,h⟩:=h;rw[aA]at h;have K:=h.1;simp only[yc]at K;exact⟨q,FE U (by rw[oT K.2.2];exact λb N=>by cases N),V⟩
  ·cases h
 ·cases h
theorem Lj{boxed vars:Bool}{b:Builtin}{ts:List TypeId}{rs:Nat}{args:List AV}(h:eD P boxed vars b ts mem rs args=some out)(hA:Ag out.rd mem mem'):eD P boxed vars b ts mem' rs args=some out:=by
 unfold eD at h⊢
 split at h
 ·obtain⟨n,hn,rfl⟩:=ye.1 h;exact ye.2 ⟨n,Rz hn hA,rfl⟩
 ·exact R3 h
 ·exact N1 h hA
 ·exact h
 ·exact h
 ·exact h
 ·simp at h
theorem L0{boxed:Bool}{H dst:TypeId}{rs:Nat}{x:AV}(h:mM P boxed H dst mem rs x=some out)(hA:Ag out.rd mem mem'):mM P boxed H dst mem' rs x=some out:=by
 unfold mM at h⊢
 split at h
 ·exact h
 ·exact h
 ·split at h
  ·rw[bind_some]at h⊢;obtain⟨v,J,h⟩:=h;refine⟨v,B3 J ?_,h⟩;rw[aA]at h;obtain⟨_,h⟩:=h;split at h
   ·obtain rfl:=ya h;exact hA
   ·simp at h
  ·exact h
 ·split at h
  ·rw[aA]at h⊢;obtain⟨K,h⟩:=h;refine⟨K,?_⟩;rw[bind_some]at h⊢;obtain⟨x,M,h⟩:=h;refine⟨x,?_,h⟩;rw[aA]at h;obtain⟨_,h⟩:=h;obtain rfl:=ya h;rw[box?_ag (hA _ (by simp))];exact M
  ·exact h
 ·simp at h
theorem wL{l:LK}{v:AV}{r:AV×List Nat}(h:iG P mem l v=some r)(hA:Ag r.2 mem mem'):iG P mem' l v=some r:=by
 unfold iG at h⊢
 split at h
 ·obtain⟨q,H,rfl⟩:=ye.1 h;exact ye.2 ⟨q,GO H hA,rfl⟩
 ·obtain⟨q,H,rfl⟩:=ye.1 h;exact ye.2 ⟨q,GO H hA,rfl⟩
 ·exact h
theorem BZ: ∀{ls:List LK} {vs:List AV} {r:List AV×List Nat},b6 P mem ls vs=some r->Ag r.2 mem mem'->b6 P mem' ls vs=some r
 | [],[],r,h,_=>h
 | [],v::vs,r,h,_=>by simp[b6]at h
 |l::ls,[],r,h,_=>by simp[b6]at h
 |l::ls,v::vs,r,h,hA=>by
  simp only[b6]at h⊢
  rw[bind_some]at h;obtain⟨a,J,h⟩:=h;rw[bind_some]at h;obtain⟨b,H,h⟩:=h;obtain rfl:=ya h;rw[wL J (hA.sub λb H=>yz1 _ H),BZ H (hA.sub λb H=>ya2 _ H)];rfl
theorem TE{t:TypeId}{v:AV}{r:AV×List Nat}(h:lend P mem t v=some r)(hA:Ag r.2 mem mem'):lend P mem' t v=some r:=by
 unfold lend at h⊢
 split at h
 ·rw[bind_some]at h⊢;obtain⟨l,J,h⟩:=h;exact⟨l,J,wL h hA⟩
 ·rw[bind_some]at h⊢;obtain⟨l,J,h⟩:=h;exact⟨l,J,wL h hA⟩
 ·rename_i cs;cases H:Iw cs with
  |true=>
   rw[H]at h;simp only[yg]at h⊢
   rw[bind_some]at h⊢;obtain⟨ls,K,h⟩:=h;refine⟨ls,K,?_⟩;obtain⟨q,M,rfl⟩:=ye.1 h;exact ye.2 ⟨q,BZ M hA,rfl⟩
  |false=>rw[H]at h;exact h
 ·exact h
theorem F4: ∀{ts:List TypeId} {vs:List AV} {r:List AV×List Nat},gN P mem ts vs=some r->Ag r.2 mem mem'->gN P mem' ts vs=some r
 | [],[],r,h,_=>h
 | [],v::vs,r,h,_=>by simp[gN]at h
 |t::ts,[],r,h,_=>by simp[gN]at h
 |t::ts,v::vs,r,h,hA=>by
  simp only[gN]at h⊢
  rw[bind_some]at h;obtain⟨a,J,h⟩:=h;rw[bind_some]at h;obtain⟨b,H,h⟩:=h;obtain rfl:=ya h;rw[TE J (hA.sub λb H=>yz1 _ H),F4 H (hA.sub λb H=>ya2 _ H)];rfl
theorem Dn: ∀{n:Nat} {H seen:List Nat},∀b∈seen,b∈gQ mem n H seen
 |0,H,seen,b,J=>by simpa[gQ]using J
 |n+1,[],seen,b,J=>by simpa[gQ]using J
 |n+1,t::H,seen,b,J=>by
  simp only[gQ];cases eC t seen with
  |true=>simp only[yg];exact Dn b J
  |false=>simp only[yh];exact Dn b (yz1 _ J)
theorem Gc: ∀{n:Nat} {H seen:List Nat},Ag (gQ mem n H seen) mem mem'->gQ mem' n H seen=gQ mem n H seen
 |0,H,seen,_=>by simp[gQ]
 |n+1,[],seen,_=>by simp[gQ]
 |n+1,t::H,seen,hA=>by
  simp only[gQ]at hA⊢
  cases hm:eC t seen with
  |true=>rw[hm]at hA;simp only[yg]at hA⊢;exact Gc hA
  |false=>
   rw[hm]at hA;simp only[yh]at hA⊢
   have ht:mem'[t]?=mem[t]?:=hA t (Dn t (by simp));have:Dq mem' t=Dq mem t:=by unfold Dq;rw[ht]
   rw[this];exact Gc hA
theorem HX: ∀{ids:List Nat} {b n:Nat},b∉ids->w7 b ids n=none
 | [],b,n,_=>rfl
 |m::r,b,n,h=>by
  simp only[w7];cases H:Nat.beq m b with
  |true=>exact absurd (by rw[bN.1 H];exact yn ..) h
  |false=>simp only[yh];exact HX λJ=>h (yj _ J)
theorem NR{b:Nat}(h:mem'[b]?=mem[b]?):lZ mem' b=lZ mem b:=by unfold lZ;rw[h]
theorem Rl{m:Nat}{keep:Bool}{ids:List Nat}(hA:Ag ids mem mem'):fU m keep mem' ids=fU m keep mem ids:=by
 funext b g;by_cases H:b∈ids
 ·unfold fU;rw[HI (hA b H),NR (hA b H)]
 ·have K:w7 b ids 0=none:=HX H;have: ∀J:aK,fU m keep J ids b g=none:=by
   intro J;unfold fU;split
   ·rw[K];cases Nat.beq _ g<;>rfl
   ·rfl
  rw[this,this]
theorem HB{m:Nat}{keep:Bool}(f:kY): ∀{ids:List Nat} {n:Nat},Ag ids mem mem'->eH m keep f mem' n ids=eH m keep f mem n ids
 | [],_,_=>rfl
 |b::r,n,h=>by
  simp only[eH,h b (yn ..),HB f (ids:=r) (h.sub λb H=>yj _ H)]
theorem r8(f:kY): ∀{ids:List Nat} {q:aK},Ag ids mem mem'->bI f mem' ids q=bI f mem ids q
 | [],q,_=>by simp[bI]
 |a::ids,[],_=>by simp[bI]
 |a::ids,none::q,h=>by simp only[bI];exact r8 f (h.sub λb H=>yj _ H)
 |a::ids,some x::q,h=>by
  simp only[bI,HI (h a (yn ..)),r8 f (ids:=ids) (q:=q) (h.sub λb H=>yj _ H)]
theorem OD{sub:aK}{ids:List Nat}(H:mem'.length=mem.length)(hA:Ag ids mem mem'):cX mem' sub ids=cX mem sub ids:=by
 funext b g;unfold cX;cases J:ids[b]? with
 |none=>simp only[H]
 |some a=>simp only[HI (hA a (yk J))]
theorem R9{keep:Bool}{ts:List TypeId}{vs:List AV}{r:List AV×List Nat}(h:LA P keep mem ts vs=some r)(hA:Ag r.2 mem mem'):LA P keep mem' ts vs=some r:=by
 cases keep with
 |true=>exact h
 |false=>exact F4 h hA
theorem Ss{C:bX}{raw keep:Bool}{g:FuncId}{ts:List TypeId}{H args K:List AV}(W:mem'.length=mem.length)(h:Aq P C raw keep g ts H args K mem=some out)(hA:Ag out.rd mem mem'):Aq P C raw keep g ts H args K mem'=some out:=by
 unfold Aq at h⊢
 rw[bind_some]at h⊢;obtain⟨J,O,h⟩:=h;simp only at h;have V:out.rd=J.2++gQ mem (dL mem (AV.refsAll (H++J.1++K)).length) (AV.refsAll (H++J.1++K)) []:=by
  rw[aA]at h;obtain⟨_,h⟩:=h;rw[bind_some]at h;obtain⟨q,_,h⟩:=h;rw[aA]at h;obtain⟨_,h⟩:=h;revert h
  cases(gB (gQ mem (dL mem (AV.refsAll (H++J.1++K)).length) (AV.refsAll (H++J.1++K)) []).length
    (bif raw then q.1 else mX (gQ mem (dL mem (AV.refsAll (H++J.1++K)).length) (AV.refsAll (H++J.1++K)) []).length q.2 q.1).refs&&
     gB (gQ mem (dL mem (AV.refsAll (H++J.1++K)).length) (AV.refsAll (H++J.1++K)) []).length
      (cJ (List.take (gQ mem (dL mem (AV.refsAll (H ++ J.1 ++ K)).length) (AV.refsAll (H ++ J.1 ++ K)) []).length q.2))) with
  |true=>intro h;simp only[yg]at h;obtain rfl:=ya h;rfl
  |false=>intro h;simp only[yh]at h;obtain rfl:=ya h;rfl
 rw[V]at hA;refine⟨J,R9 O (hA.sub λb U=>yz1 _ U),?_⟩;have N: ∀n,dL mem' n=dL mem n:=λn=>by unfold dL;rw[W]
 have M:=hA.sub (S':=gQ mem (dL mem (AV.refsAll (H++J.1++K)).length) (AV.refsAll (H++J.1++K)) []) λb U=>ya2 _ U;simp only[N,Gc M,Rl M,HB _ M,OD W M,r8 _ M];exact h
theorem UA{C:bX}{boxed raw vars:Bool}{o:Oper}{ρ:Operand->Option AV}{rs:Nat}(hl:mO o=true->mem'.length=mem.length)(h:OV P C boxed raw vars o ρ mem rs=some out)(hA:Ag out.rd mem mem'):
  OV P C boxed raw vars o ρ mem' rs=some out:=by
 unfold OV GP Ca L3 Bc f6 zL Ml Lu RJ G9 Cs y5 mJ BA zN qP Dh at h⊢
 split at h<;>rename_i W<;>try exact h
 ·rw[bind_some]at h⊢;obtain⟨U,J,h⟩:=h;refine⟨U,J,?_⟩;rw[bind_some]at h⊢;obtain⟨z,V,h⟩:=h;refine⟨z,V,?_⟩;rw[bind_some]at h⊢;obtain⟨s,hs,h⟩:=h;refine⟨s,hs,?_⟩;rw[bind_some]at h⊢;obtain⟨ps,Z,h⟩:=h;refine⟨ps,Z,?_⟩;rw[aA]at h⊢;obtain⟨K,h⟩:=h;refine⟨K,?_⟩;rw[bind_some]at h⊢;obtain⟨wv,hwv,h⟩:=h;have h':=h;rw[aA]at h;obtain⟨_,h⟩:=h;obtain⟨ov,_,rfl⟩:=ye.1 h;exact⟨wv,QO hwv hA,by rw[x8 hA];exact h'⟩
 ·rw[bind_some]at h⊢;obtain⟨a,N,h⟩:=h;exact⟨a,N,RI h hA⟩
 ·rw[bind_some]at h⊢;obtain⟨a,N,h⟩:=h;refine⟨a,N,?_⟩;rw[bind_some]at h⊢;obtain⟨x,M,h⟩:=h;exact⟨x,M,Qn h hA⟩
 ·rw[bind_some]at h⊢;obtain⟨a,N,h⟩:=h;exact⟨a,N,L0 h hA⟩
 ·rw[bind_some]at h⊢;obtain⟨U,J,h⟩:=h;refine⟨U,J,?_⟩;rw[bind_some]at h⊢;obtain⟨z,V,h⟩:=h;refine⟨z,V,?_⟩;rw[bind_some]at h⊢;obtain⟨l,O,h⟩:=h;refine⟨l,O,?_⟩;rw[bind_some]at h⊢;obtain⟨c,hc,h⟩:=h;refine⟨c,hc,?_⟩;split at h
  ·rw[aA]at h⊢;obtain⟨K,h⟩:=h;refine⟨K,?_⟩;split at h
   ·exact h
   ·rw[bind_some]at h⊢;obtain⟨q,hq,h⟩:=h;refine⟨q,?_,h⟩;rw[bind_some]at h;obtain⟨e,_,h⟩:=h;rw[bind_some]at h;obtain⟨bytes,_,h⟩:=h;rw[aA]at h;obtain⟨K,h⟩:=h;simp only[yc]at K;have:q.2.2= []:=oT K.2;exact FE hq (by rw[this];intro b hb;cases hb)
  ·exact h
 ·rw[bind_some]at h⊢;obtain⟨x,M,h⟩:=h;refine⟨x,M,?_⟩;rw[bind_some]at h⊢;obtain⟨lo,Y,h⟩:=h;refine⟨lo,Y,?_⟩;rw[bind_some]at h⊢;obtain⟨hi,hhi,h⟩:=h;refine⟨hi,hhi,?_⟩;rw[bind_some]at h⊢;obtain⟨mx,hmx,h⟩:=h;exact⟨mx,hmx,PM h hA⟩
 ·rw[bind_some]at h⊢;obtain⟨x,M,h⟩:=h;refine⟨x,M,?_⟩;rw[bind_some]at h⊢;obtain⟨ix,hix,h⟩:=h;refine⟨ix,hix,?_⟩;split at h
  ·exact Ql h hA
  ·exact h
 ·rename_i c;rw[bind_some]at h⊢;obtain⟨args,H,h⟩:=h;refine⟨args,H,?_⟩;split at h
  ·exact Lj h hA
  ·rename_i f hc;rw[bind_some]at h⊢;obtain⟨fv,hf,h⟩:=h;refine⟨fv,hf,?_⟩;split at h
   ·exact Ss (hl (by unfold mO;rw[W];simp only;rw[hc])) h hA
   ·exact h
  ·exact h
theorem oN{ρ ρ':Operand->Option AV}: ∀{xs:List Operand},(∀x∈xs,ρ' x=ρ x)->oZ ρ' xs=oZ ρ xs
 | [],_=>rfl
 |x::r,h=>by simp only[oZ,h x (yn ..),oN (xs:=r) (λy H=>h y (yj _ H))]
theorem nE{ρ ρ':Operand->Option AV}: ∀{xs:List (Nat×Operand)},(∀x∈xs.map (·.2),ρ' x=ρ x)->lT ρ' xs=lT ρ xs
 | [],_=>rfl
 |(i,x)::r,h=>by simp only[lT,h x (by simp),nE (xs:=r) (λy H=>h y (yj _ H))]
theorem lG{ρ ρ':Operand->Option AV}{x:Option Operand}(h: ∀y,x=some y->ρ' y=ρ y):BQ ρ' x=BQ ρ x:=by
 cases x with
 |none=>rfl
 |some y=>simp only[BQ,h y rfl]
theorem SK{C:bX}{boxed raw vars:Bool}{o:Oper}{ρ ρ':Operand->Option AV}{rs:Nat}(h: ∀x∈o.op.operands,ρ' x=ρ x):OV P C boxed raw vars o ρ' mem rs=OV P C boxed raw vars o ρ mem rs:=by
 obtain⟨dst,op,N,Sw,K,guard⟩:=o;cases op<;>simp only[Op.operands]at h<;>simp only[OV,GP,Ca,L3,Bc,f6,zL,Ml,Lu,RJ,G9,Cs,y5,mJ,BA,zN,rC,qP,Dh]
 case move x=>simp only[x5,h x (by simp)]
 case assign x=>simp only[x5,h x (by simp)]
 case build t ps=>rw[nE (λx H=>h x (by simpa using H))]
 case buildSlice t n ps=>rw[nE (λx H=>h x (by simpa using H))]
 case makeFunc fn first captured=>
  rw[oN (xs:=first.toList) λx H=>h x (by simp at H⊢;exact .inl H),oN (xs:=captured.toList) λx H=>h x (by simp at H⊢;exact .inr H)]
 case slice t x lo hi mx=>
  rw[h x (by simp),lG (x:=lo) λy J=>h y (by simp[J]),lG (x:=hi) λy J=>h y (by simp[J]),lG (x:=mx) λy J=>h y (by simp[J])]
 case call c=>
  obtain⟨M,args,ts⟩:=c;simp only[Call.operands]at h;rw[oN (xs:=args.toList) λx H=>h x (by simp at H⊢;exact .inr H)];cases M with
  |builtin b=>rfl
  |value f=>simp only[h f (by simp)]
  |invoke r m=>rfl
 all_goals (first|rfl|(simp_all;done))
theorem Lb{xs:List PV}{i c:Nat}{l:LK}{hs:List (Nat×Nat×AV)}{nb nb':Nat}:pJ false xs i c l hs nb=pJ false xs i c l hs nb':=by
 unfold pJ;cases xs[i]? with
 |none=>rfl
 |some p=>
  simp only[yb];cases p.cells[c]? with
  |none=>rfl
  |some y=>
   simp only[yb];split
   ·rfl
   ·cases AB l<;>rfl
theorem IV{xs:List PV}{i:Nat}: ∀{ls:List LK} {c:Nat} {hs:List (Nat×Nat×AV)} {nb nb':Nat},qH false xs i ls c hs nb=qH false xs i ls c hs nb'
 | [],c,hs,nb,nb'=>rfl
 |l::ls,c,hs,nb,nb'=>by
  simp only[qH];rw[Lb (nb':=nb')];cases pJ false xs i c l hs nb' with
  |none=>rfl
  |some a=>simp only[yb];rw[IV (ls:=ls) (nb:=nb+a.2.2.length) (nb':=nb'+a.2.2.length)]
theorem L5{b e:Nat}{H:bK}{xs:List PV}{v:AV}{q:List (Nat×Nat×AV)×List aZ}:(BW b e H xs v q).rd= [b]:=by unfold BW;split<;>rfl
theorem MU{t:TypeId}{a:AV}(h:Ce P false t mem a=some out)(hA:Ag out.rd mem mem'):Ce P false t mem' a=some out/\∀b g i c,a= .ptr b g i c->b∈out.rd:=by
 unfold Ce at h⊢
 split at h
 ·rename_i b g i c;rw[bind_some]at h;obtain⟨bx,J,h⟩:=h;have H:b∈out.rd:=by
   split at h
   ·split at h
    ·rw[bind_some]at h;obtain⟨l,hl,h⟩:=h;obtain⟨q,N,rfl⟩:=ye.1 h;rw[L5];simp
    ·rw[bind_some]at h;obtain⟨ls,M,h⟩:=h;rw[bind_some]at h;obtain⟨n,hn,h⟩:=h;rw[aA]at h;obtain⟨_,h⟩:=h;obtain⟨q,N,rfl⟩:=ye.1 h;rw[L5];simp
    ·cases h
   ·cases h
  refine⟨?_,λb' g' i' c' K=>by cases K;exact H⟩;rw[boxO?_ag (hA b H),J,yb];split at h
  ·split at h
   ·simp only[Lb (nb:=mem'.length) (nb':=mem.length)];exact h
   ·simp only[IV (nb:=mem'.length) (nb':=mem.length)];exact h
   ·exact h
  ·exact h
 ·cases h
theorem P5{t:TypeId}{a x:AV}(h:nA P t mem a x=some out)(hA:Ag out.rd mem mem'):nA P t mem' a x=some out/\∀b g i c,a= .ptr b g i c->b∈out.rd:=by
 unfold nA at h⊢
 split at h
 ·rename_i b g i c;rw[bind_some]at h;obtain⟨bx,J,h⟩:=h;have H:b∈out.rd:=by
   split at h
   ·rw[bind_some]at h;obtain⟨n,hn,h⟩:=h;rw[aA]at h;obtain⟨_,h⟩:=h;rw[bind_some]at h;obtain⟨p,_,h⟩:=h;rw[bind_some]at h;obtain⟨y,_,h⟩:=h;split at h
    ·rw[aA]at h;obtain⟨_,h⟩:=h;obtain rfl:=ya h;simp
    ·cases h
    ·rw[bind_some]at h;obtain⟨y',_,h⟩:=h;obtain⟨hs',_,rfl⟩:=ye.1 h;simp
    ·cases h
    ·obtain⟨hs',_,rfl⟩:=ye.1 h;simp
   ·cases h
  refine⟨?_,λb' g' i' c' K=>by cases K;exact H⟩;rw[boxO?_ag (hA b H),J,yb];exact h
 ·cases h
theorem Th{t:TypeId}{x:AV}(h:MC P t mem x=some out)(hA:Ag out.rd mem mem'):MC P t mem' x=some out/\∀b g,x= .msw b g->b∈out.rd:=by
 unfold MC at h⊢
 split at h
 ·rename_i e b g hu;obtain⟨bx,H,rfl⟩:=ye.1 h;refine⟨?_,λb' g' J=>by cases J;simp⟩;rw[boxO?_ag (hA b (by simp)),H];rfl
 ·cases h
def w4:AV->Option Nat
 | .msw b _=>some b
 | .ms b _ _ _=>some b
 |_=>none
theorem QB{t:TypeId}{x:AV}{i:Int}(h:sC P t mem x i=some out)(hA:Ag out.rd mem mem'):sC P t mem' x i=some out/\∀b,w4 x=some b->b∈out.rd:=by
 unfold sC at h⊢
 split at h
 ·rw[bind_some]at h;obtain⟨s,hs,h⟩:=h;simp only[hs,yb];split at h
  ·rename_i b g o n;rw[bind_some]at h;obtain⟨N,H,h⟩:=h;have J:=h;rw[aA]at h;obtain⟨_,h⟩:=h;obtain rfl:=ya h;refine⟨?_,λM K=>by cases K;simp⟩;rw[boxO?_ag (hA b (by simp)),H];exact J
  ·rename_i b g;rw[bind_some]at h;obtain⟨N,H,h⟩:=h;have J:=h;rw[aA]at h;obtain⟨_,h⟩:=h;obtain rfl:=ya h;refine⟨?_,λM K=>by cases K;simp⟩;rw[boxO?_ag (hA b (by simp)),H];exact J
  ·cases h
 ·cases h
theorem PE{t:TypeId}{x:AV}{O M N:Option Int}(h:sH P t mem x O M N=some out)(hA:Ag out.rd mem mem'):sH P t mem' x O M N=some out/\∀b,w4 x=some b->b∈out.rd:=by
 unfold sH at h⊢
 split at h
 ·rw[bind_some]at h;obtain⟨s,hs,h⟩:=h;simp only[hs,yb];split at h
  ·rename_i b g o n;rw[bind_some]at h;obtain⟨V,H,h⟩:=h;have J:=h;rw[aA]at h;obtain⟨_,h⟩:=h;obtain⟨q,_,rfl⟩:=ye.1 h;refine⟨?_,λU K=>by cases K;simp⟩;rw[boxO?_ag (hA b (by simp)),H];exact J
  ·rename_i b g;rw[bind_some]at h;obtain⟨V,H,h⟩:=h;have J:=h;rw[aA]at h;obtain⟨_,h⟩:=h;obtain⟨q,_,rfl⟩:=ye.1 h;refine⟨?_,λU K=>by cases K;simp⟩;rw[boxO?_ag (hA b (by simp)),H];exact J
  ·cases h
 ·cases h
theorem Na{own:Bool}{t U:TypeId}{rs:Nat}{x y:AV}(h:nD P own t U mem rs x y=some out)(hA:Ag out.rd mem mem'):nD P own t U mem' rs x y=some out/\∀b,w4 x=some b->b∈out.rd:=by
 unfold nD at h⊢
 rw[bind_some]at h;obtain⟨et,M,h⟩:=h;rw[bind_some]at h;obtain⟨s,hs,h⟩:=h;rw[bind_some]at h;obtain⟨bytes,O,h⟩:=h;rw[bind_some]at h;obtain⟨z,V,h⟩:=h;rw[bind_some]at h;obtain⟨ls,K,h⟩:=h;rw[bind_some]at h;obtain⟨W,N,h⟩:=h;simp only[M,hs,O,V,K,yb];have J:(∀b∈W.2,b∈out.rd)/\∀b,w4 x=some b->b∈out.rd:=by
  split at h
  ·rw[aA]at h;obtain⟨_,h⟩:=h;split at h
   ·rw[aA]at h;obtain⟨_,h⟩:=h;rw[bind_some]at h;obtain⟨q,_,h⟩:=h;rw[aA]at h;obtain⟨_,h⟩:=h;obtain rfl:=ya h;exact⟨λb H=>H,λb H=>by cases H⟩
   ·rw[bind_some]at h;obtain⟨Z,_,h⟩:=h;split at h
    ·rw[bind_some]at h;obtain⟨q,_,h⟩:=h;rw[aA]at h;obtain⟨_,h⟩:=h;obtain rfl:=ya h;exact⟨λb H=>yj _ H,λb H=>by cases H;simp⟩
    ·cases h
   ·rw[bind_some]at h;obtain⟨Z,_,h⟩:=h;split at h
    ·rw[bind_some]at h;obtain⟨q,_,h⟩:=h;rw[aA]at h;obtain⟨_,h⟩:=h;obtain rfl:=ya h;exact⟨λb H=>yj _ H,λb H=>by cases H;simp⟩
    ·cases h
   ·cases h
  ·cases h
 refine⟨?_,J.2⟩;rw[B3 N (hA.sub J.1),yb];split at h
 ·rw[aA]at h⊢;obtain⟨Y,h⟩:=h;refine⟨Y,?_⟩;split at h
  ·exact h
  ·rename_i b g;rw[boxO?_ag (hA b (J.2 b rfl))];exact h
  ·rename_i b g n;rw[boxO?_ag (hA b (J.2 b rfl))];exact h
  ·exact h
 ·exact h
theorem jG{ρ:Operand->Option AV}{p H:AV->Bool}{x:Operand}{v:AV}(J:ρ x=some v)(h:H v=p v):m7 ρ H x=m7 ρ p x:=by unfold m7;rw[J];exact h
theorem FI{v:AV}(h: ∀b g i c,v= .ptr b g i c->mem'[b]?=mem[b]?):Js mem' v=Js mem v:=by
 cases v with
 |ptr b g i c=>exact BD (h b g i c rfl)
 |_=>rfl
theorem zQ{v:AV}(h: ∀b,w4 v=some b->mem'[b]?=mem[b]?):A0 mem' v=A0 mem v:=by
 cases v with
 |msw b g=>exact BD (h b rfl)
 |ms b g o n=>exact BD (h b rfl)
 |_=>rfl
theorem Pe{v:AV}(h: ∀b g,v= .msw b g->mem'[b]?=mem[b]?):JQ mem' v=JQ mem v:=by
 cases v with
 |msw b g=>exact BD (h b g rfl)
 |_=>rfl
theorem Me{t:TypeId}{b g i c:Nat}(h:jY P t mem (.ptr b g i c)=some out):b∈out.rd:=by
 unfold jY at h;simp only at h;rw[bind_some]at h;obtain⟨x,hx,h⟩:=h;split at h
 ·rw[bind_some]at h;obtain⟨ag,_,h⟩:=h;cases ag with
  |true=>
   simp only[yg]at h;rw[bind_some]at h;obtain⟨n,_,h⟩:=h;rw[aA]at h;obtain⟨_,h⟩:=h;obtain rfl:=ya h;simp
  |false=>
   simp only[yh]at h;obtain⟨v,_,rfl⟩:=ye.1 h;simp
 ·rw[aA]at h;obtain⟨_,h⟩:=h;rw[aA]at h;obtain⟨_,h⟩:=h;obtain⟨v,_,rfl⟩:=ye.1 h;simp
 ·rw[bind_some]at h;obtain⟨y,_,h⟩:=h;obtain⟨v,_,rfl⟩:=ye.1 h;simp
 ·cases h
theorem QN{t:TypeId}{x:AV}{b g i c:Nat}(h:jV P t mem (.ptr b g i c) x=some out):b∈out.rd:=by
 unfold jV at h;simp only at h;rw[bind_some]at h;obtain⟨bx,H,h⟩:=h;rw[bind_some]at h;obtain⟨n,_,h⟩:=h;rw[aA]at h;obtain⟨_,h⟩:=h;split at h
 ·rw[aA]at h;obtain⟨_,h⟩:=h;obtain rfl:=ya h;simp
 ·split at h
  ·rw[aA]at h;obtain⟨_,h⟩:=h;obtain rfl:=ya h;simp
  ·simp at h
 ·rw[bind_some]at h;obtain⟨p,_,h⟩:=h;rw[bind_some]at h;obtain⟨q,_,h⟩:=h;rw[aA]at h;obtain⟨_,h⟩:=h;obtain rfl:=ya h;simp
 ·cases h
theorem Cn{x:AV}{b:Nat}(h:w4 x=some b):(∃g,x= .msw b g)\/∃g o n,x= .ms b g o n:=by
 unfold w4 at h;split at h
 ·cases h;exact .inl ⟨_,rfl⟩
 ·cases h;exact .inr ⟨_,_,_,rfl⟩
 ·cases h
theorem P8{t:TypeId}{x:AV}{M H J:Option Int}{b:Nat}(h:gL P t mem x M H J=some out)(K:w4 x=some b):b∈out.rd:=by
 unfold gL at h;rcases Cn K with ⟨g,rfl⟩|⟨g,o,n,rfl⟩<;>simp only at h<;>split at h
 ·cases h
 ·rw[bind_some]at h;obtain⟨s,_,h⟩:=h;rw[bind_some]at h;obtain⟨x,_,h⟩:=h;rw[aA]at h;obtain⟨_,h⟩:=h;obtain⟨q,_,rfl⟩:=ye.1 h;simp
 ·rw[bind_some]at h;obtain⟨s,_,h⟩:=h;cases h
 ·cases h
 ·cases h
 ·rw[bind_some]at h;obtain⟨s,_,h⟩:=h;rw[bind_some]at h;obtain⟨x,_,h⟩:=h;rw[aA]at h;obtain⟨_,h⟩:=h;obtain⟨q,_,rfl⟩:=ye.1 h;simp
 ·rw[bind_some]at h;obtain⟨s,_,h⟩:=h;cases h
 ·cases h
theorem Qm{t:TypeId}{x:AV}{i:Int}{b:Nat}(h:iY P t mem x i=some out)(H:w4 x=some b):b∈out.rd:=by
 unfold iY at h;rcases Cn H with ⟨g,rfl⟩|⟨g,o,n,rfl⟩<;>simp only at h<;>split at h
 ·rw[bind_some]at h;obtain⟨s,_,h⟩:=h;rw[bind_some]at h;obtain⟨x,_,h⟩:=h;rw[aA]at h;obtain⟨_,h⟩:=h;obtain rfl:=ya h;simp
 ·rw[bind_some]at h;obtain⟨s,_,h⟩:=h;cases h
 ·cases h
 ·rw[bind_some]at h;obtain⟨s,_,h⟩:=h;rw[bind_some]at h;obtain⟨x,_,h⟩:=h;rw[aA]at h;obtain⟨_,h⟩:=h;obtain rfl:=ya h;simp
 ·rw[bind_some]at h;obtain⟨s,_,h⟩:=h;cases h
 ·cases h
theorem OE{boxed vars:Bool}{t J:TypeId}{rs:Nat}{x y:AV}{b:Nat}(h:iM P boxed vars t J mem rs x y=some out)(K:w4 x=some b):b∈out.rd:=by
 unfold iM at h;rw[bind_some]at h;obtain⟨et,M,h⟩:=h;rw[bind_some]at h;obtain⟨s,hs,h⟩:=h;rw[bind_some]at h;obtain⟨bytes,O,h⟩:=h;rw[bind_some]at h;obtain⟨z,hz,h⟩:=h;rw[bind_some]at h;obtain⟨yv,N,h⟩:=h;rw[aA]at h;obtain⟨_,h⟩:=h;rcases Cn K with ⟨g,H⟩|⟨g,o,n,H⟩<;>subst H<;>try simp only at h
 ·rw[bind_some]at h;obtain⟨x,_,h⟩:=h;rw[bind_some]at h;obtain⟨x,_,h⟩:=h;rw[aA]at h;obtain⟨_,h⟩:=h;obtain rfl:=ya h;simp
 ·rw[bind_some]at h;obtain⟨x,_,h⟩:=h;rw[bind_some]at h;obtain⟨x,_,h⟩:=h;rw[bind_some]at h;obtain⟨x,_,h⟩:=h;rw[aA]at h;obtain⟨_,h⟩:=h;obtain rfl:=ya h;simp
theorem Uy{own:Bool}{o:Oper}{ρ:Operand->Option AV}{rs:Nat}(h:Ic P own false o ρ mem rs=some out)(hA:Ag out.rd mem mem'):
  Ic P own false o ρ mem' rs=some out/\(bQ own ρ mem o.op=true->bQ own ρ mem' o.op=true):=by
 unfold Ic at h⊢
 split at h<;>rename_i K
 ·exact⟨h,λJ=>by rw[K]at J⊢;exact J⟩
 ·exact⟨h,λJ=>by rw[K]at J⊢;exact J⟩
 ·exact⟨h,λJ=>by rw[K]at J⊢;exact J⟩
 ·exact⟨h,λJ=>by rw[K]at J⊢;exact J⟩
 ·rw[bind_some]at h;obtain⟨a,W,h⟩:=h;obtain⟨O,M⟩:=MU h hA;refine⟨by simp only[W,yb];exact O,λJ=>?_⟩;rw[K]at J⊢
  simp only[bQ]at J⊢
  rw[jG (p:=Js mem) W (FI λb g i c N=>hA b (M b g i c N))];exact J
 ·rw[bind_some]at h;obtain⟨a,W,h⟩:=h;rw[bind_some]at h;obtain⟨x,U,h⟩:=h;obtain⟨O,M⟩:=P5 h hA;refine⟨by simp only[W,U,yb];exact O,λJ=>?_⟩;rw[K]at J⊢
  simp only[bQ]at J⊢
  rw[jG (p:=Js mem) W (FI λb g i c N=>hA b (M b g i c N))];exact J
 ·rw[bind_some]at h;obtain⟨x,U,h⟩:=h;rw[bind_some]at h;obtain⟨lo,Z,h⟩:=h;rw[bind_some]at h;obtain⟨J,hhi,h⟩:=h;rw[bind_some]at h;obtain⟨mx,hmx,h⟩:=h;obtain⟨O,M⟩:=PE h hA;refine⟨by simp only[U,Z,hhi,hmx,yb];exact O,λJ=>?_⟩;rw[K]at J⊢
  simp only[bQ]at J⊢
  rw[jG (p:=A0 mem) U (zQ λb N=>hA b (M b N))];exact J
 ·rw[bind_some]at h;obtain⟨x,U,h⟩:=h;rw[bind_some]at h;obtain⟨ix,hix,h⟩:=h;split at h
  ·obtain⟨O,M⟩:=QB h hA;refine⟨by simp only[U,hix,yb];exact O,λJ=>?_⟩;rw[K]at J⊢
   simp only[bQ]at J⊢
   rw[jG (p:=A0 mem) U (zQ λb N=>hA b (M b N))];exact J
  ·cases h
 ·rename_i c;obtain⟨cal,args,ts⟩:=c;rw[bind_some]at h;obtain⟨as,H,h⟩:=h;simp only at h H K;split at h
  ·rename_i b;unfold mP at h;split at h
   ·rename_i t x V;obtain⟨O,M⟩:=Th h hA;refine⟨by simp only[H,yb,mP,V];exact O,λJ=>?_⟩;rw[K]at J⊢
    simp only[bQ]at J⊢
    cases Y:args.toList with
    |nil=>rw[Y]at H;cases H
    |cons a0 l0=>
     rw[Y]at J H;cases l0 with
     |cons _ _=>cases J
     |nil=>
      simp only[oZ]at H;rw[bind_some]at H;obtain⟨v,hv,H⟩:=H;simp at H;subst H;simp only at J⊢
      rw[jG (p:=JQ mem) hv (Pe λb g N=>hA b (M b g N))];exact J
   ·rename_i t tx x y V;obtain⟨O,M⟩:=Na h hA;refine⟨by simp only[H,yb,mP,V];exact O,λJ=>?_⟩;rw[K]at J⊢
    simp only[bQ]at J⊢
    cases Y:args.toList with
    |nil=>rw[Y]at H;cases H
    |cons a0 l0=>
     rw[Y]at J H;cases l0 with
     |nil=>cases J
     |cons a1 l1=>
      cases l1 with
      |cons _ _=>cases J
      |nil=>
       simp only[oZ]at H;rw[bind_some]at H;obtain⟨v,hv,H⟩:=H;obtain⟨l,hl',H⟩:=ye.1 H;simp only[List.cons.injEq]at H;obtain⟨rfl,_⟩:=H;simp only at J⊢
       rw[jG (p:=A0 mem) hv (zQ λb N=>hA b (M b N))];exact J
   ·cases h
  ·cases h
 ·cases h
theorem Mx{boxed vars:Bool}{ts:List TypeId}{rs b g:Nat}(h:eD P boxed vars .len ts mem rs [.msw b g]=some out):b∈out.rd:=by
 match ts,h with
 | [t],h=>
  have h:(lenOf P t mem (.msw b g)).map (λn=>({v:= .lit (.int .i64 (n.1:Int)),rd:=n.2}:dI))=some out:=h;obtain⟨n,hn,rfl⟩:=ye.1 h;unfold lenOf at hn;split at hn
  ·cases hn
  ·simp only at hn;obtain⟨x,_,rfl⟩:=ye.1 hn;simp
  ·cases hn
 | [],h=>cases h
 |_::_::_,h=>cases h
theorem He{boxed vars:Bool}{ts:List TypeId}{rs b:Nat}{x y:AV}(h:eD P boxed vars .append ts mem rs [x,y]=some out)(H:w4 x=some b):b∈out.rd:=by
 match ts,h with
 | [t,J],h=>
  have h:iM P boxed vars t J mem rs x y=some out:=by
   rcases Cn H with ⟨g,rfl⟩|⟨g,o,n,rfl⟩<;>exact h
  exact OE h H
 | [],h=>cases x<;>cases y<;>cases h
 | [_],h=>cases x<;>cases y<;>cases h
 |_::_::_::_,h=>cases x<;>cases y<;>cases h
theorem Ua{C:bX}{own boxed raw vars:Bool}{o:Oper}{ρ:Operand->Option AV}{rs:Nat}(hl:mO o=true->mem'.length=mem.length)(h:Ii P C own false boxed raw vars o ρ mem rs=some out)(hA:Ag out.rd mem mem'):
  Ii P C own false boxed raw vars o ρ mem' rs=some out:=by
 unfold Ii at h⊢
 cases O:bQ own ρ mem o.op with
 |true=>
  rw[O]at h;simp only[yg]at h;obtain⟨h1,Z⟩:=Uy h hA;rw[Z O];exact h1
 |false=>
  rw[O]at h;simp only[yh]at h;have Y:=UA hl h hA;have:bQ own ρ mem' o.op=false:=by
   rw[<-O];unfold OV zL y5 zN Dh at h;split at h<;>rename_i N<;>first|(cases h;done)|(rw[N];try rfl)
   ·rw[bind_some]at h;obtain⟨a,V,h⟩:=h;exact jG (p:=Js mem) V (FI λb g i c K=>hA b (by subst K;exact Me h))
   ·rw[bind_some]at h;obtain⟨a,V,h⟩:=h;rw[bind_some]at h;obtain⟨x,U,h⟩:=h;exact jG (p:=Js mem) V (FI λb g i c K=>hA b (by subst K;exact QN h))
   ·rw[bind_some]at h;obtain⟨x,U,h⟩:=h;rw[bind_some]at h;obtain⟨lo,hlo,h⟩:=h;rw[bind_some]at h;obtain⟨hi,hhi,h⟩:=h;rw[bind_some]at h;obtain⟨mx,hmx,h⟩:=h;exact jG (p:=A0 mem) U (zQ λb K=>hA b (P8 h K))
   ·rw[bind_some]at h;obtain⟨x,U,h⟩:=h;rw[bind_some]at h;obtain⟨ix,hix,h⟩:=h;split at h
    ·exact jG (p:=A0 mem) U (zQ λb K=>hA b (Qm h K))
    ·cases h
   ·rename_i c;obtain⟨cal,args,ts⟩:=c;rw[bind_some]at h;obtain⟨as,H,h⟩:=h;simp only at h H N⊢
    simp only[bQ];split
    ·rename_i x M;rw[M]at H;simp only[oZ]at H;rw[bind_some]at H;obtain⟨v,W,H⟩:=H;simp at H;subst H;exact jG (p:=JQ mem) W (Pe λb g K=>hA b (by subst K;exact Mx h))
    ·rename_i x y M;rw[M]at H;simp only[oZ]at H;rw[bind_some]at H;obtain⟨v,W,H⟩:=H;obtain⟨l,J,H⟩:=ye.1 H;subst H;congr 1;refine jG (p:=A0 mem) W (zQ λb K=>hA b ?_);rw[bind_some]at J;obtain⟨u,hu,J⟩:=J;simp at J;subst J;exact He h K
    ·rfl
  rw[this];exact Y
theorem Le{own:Bool}{o:Oper}{ρ ρ':Operand->Option AV}(h: ∀x∈o.op.operands,ρ' x=ρ x):bQ own ρ' mem o.op=bQ own ρ mem o.op:=by
 obtain⟨dst,op,K,Sw,J,guard⟩:=o;have ask: ∀{p:AV->Bool} {x:Operand},ρ' x=ρ x->m7 ρ' p x=m7 ρ p x:=λh=>by unfold m7;rw[h]
 cases op<;>simp only[Op.operands]at h<;>simp only[bQ]
 case load t a=>exact ask (h a (by simp))
 case store t a x=>exact ask (h a (by simp))
 case slice t x lo hi mx=>exact ask (h x (by simp))
 case indexAddr t x ix=>exact ask (h x (by simp))
 case call c=>
  obtain⟨M,args,ts⟩:=c;simp only[Call.operands]at h;simp only;split
  ·rename_i x H;exact ask (h x (Array.mem_append.2 (.inr (by rw[<-Array.mem_toList_iff,H];simp))))
  ·rename_i x y H;rw[ask (h x (Array.mem_append.2 (.inr (by rw[<-Array.mem_toList_iff,H];simp))))]
  ·rfl
theorem TB{own tk:Bool}{o:Oper}{ρ ρ':Operand->Option AV}{rs:Nat}(h: ∀x∈o.op.operands,ρ' x=ρ x):Ic P own tk o ρ' mem rs=Ic P own tk o ρ mem rs:=by
 obtain⟨dst,op,M,Sw,K,guard⟩:=o;cases op<;>simp only[Op.operands]at h<;>simp only[Ic,CA,Jj]
 case buildSlice t n ps=>rw[nE (λx J=>h x (by simpa using J))]
 case slice t x lo hi mx=>
  rw[h x (by simp),lG (x:=lo) λy H=>h y (by simp[H]),lG (x:=hi) λy H=>h y (by simp[H]),lG (x:=mx) λy H=>h y (by simp[H])]
 case call c=>
  obtain⟨N,args,ts⟩:=c;simp only[Call.operands]at h;rw[oN (xs:=args.toList) λx J=>h x (by simp at J⊢;exact .inr J)]
 all_goals (first|rfl|(simp_all;done))
theorem SQ{C:bX}{own tk boxed raw vars:Bool}{o:Oper}{ρ ρ':Operand->Option AV}{rs:Nat}(h: ∀x∈o.op.operands,ρ' x=ρ x):Ii P C own tk boxed raw vars o ρ' mem rs=Ii P C own tk boxed raw vars o ρ mem rs:=by
 unfold Ii;rw[Le h,TB h,SK h]
end
end Go.Ab
end
section
namespace Go.Ab
variable [cF]
structure kD where
 v:AV
 wr:List (Nat×bK)
 push:aK
 tr:Option Tr
noncomputable def kD.app(e:kD)(dst:Option Tmp)(st:St):St:={tmps:=nM st.tmps dst e.v,mem:=aN st.mem e.wr++e.push}
section
variable {P:Program}
inductive kF (P:Program) (C:bX) (an:nB) (rid:Nat) (ops:Array Oper) (o:Oper) (i rs:Nat) (st:St):kD->Prop
 |run (out:dI) (hres:eE o.op=true->Aa st.mem rs=true) (h:Ii P C (bG rid i an.own) false (bG rid i an.boxed) (bG rid i an.raw) (bG rid i an.vars) o (cC st.tmps) st.mem rs=some out)
   (hg: ∀j want,o.guard=some (j,want)->∃d,(ops[j]?).bind (·.dst)=some d/\st.tmps[d]?=some (.lit (.bool want))):
   kF P C an rid ops o i rs st {v:=out.v,wr:=out.wr,push:=out.push,tr:=some (out.tr (eE o.op) rs i o.op st.mem)}
 |skip (j:Nat) (want:Bool) (d:Nat) (hg:o.guard=some (j,want)) (hd:(ops[j]?).bind (·.dst)=some d)
   (h:st.tmps[d]?=some (.lit (.bool (!want)))\/∃x,st.tmps[d]?=some (.lit (.tuple x))):kF P C an rid ops o i rs st {v:= .lit undef,wr:= [],push:= [],tr:=none}
theorem Same.eq{st H:St}(h:H.mem=st.mem/\∀t:Nat,H.tmps[t]?=st.tmps[t]?):H=st:=by
 obtain⟨t1,m1⟩:=H;obtain⟨t,m⟩:=st;simp only at h;obtain⟨rfl,h⟩:=h;rw[List.ext_getElem? h]
variable {C:bX} {an:nB} {rid:Nat} {ops:Array Oper}
theorem wR.two{o:Oper}{i rs:Nat}{st K:St}{t:Option Tr}(h:wR P C an false rid ops o i rs st K t): ∃e,kF P C an rid ops o i rs st e/\e.tr=t/\K=e.app o.dst st:=by
 cases h with
 |run out N H J U O=>
  obtain rfl:=Same.eq H;exact⟨_,.run out J U O,rfl,rfl⟩
 |skip N H j M d O V h=>
  obtain rfl:=Same.eq H;exact⟨_,.skip j M d O V h,rfl,by simp[kD.app,aN]⟩
theorem kF.one{o:Oper}{i rs:Nat}{st:St}{e:kD}(h:kF P C an rid ops o i rs st e):wR P C an false rid ops o i rs st (e.app o.dst st) e.tr:=by
 cases h with
 |run out H N K=>exact .run out st ⟨rfl,λ_=>rfl⟩ H N K
 |skip j J d K M h=>
  have:=wR.skip (P:=P) (C:=C) (an:=an) (tk:=false) (rid:=rid) (ops:=ops) (o:=o) (i:=i) (rs:=rs) (st:=st) st ⟨rfl,λ_=>rfl⟩ j J d K M h;simpa[kD.app,aN]using this
def R0(ops:Array Oper)(o:Oper)(d:Nat):Prop:=d∈o.looksAt ops
def T6(L:Nat)(all:List Tr)(e:kD)(b:Nat):Prop:= ∃t,e.tr=some t/\(b∈(Ie L all t).rd\/b∈t.wr)
def wV(S F:Nat->Prop)(st st':St):Prop:=(∀d:Nat,S d->st'.tmps[d]?=st.tmps[d]?)/\(∀b:Nat,F b->st'.mem[b]?=st.mem[b]?)
theorem LR{v:AV}{q:Nat×Nat×Nat×Nat}(h:o9 v=some q):v= .ptr q.1 q.2.1 q.2.2.1 q.2.2.2:=by
 unfold o9 at h;split at h
 ·cases h;rfl
 ·cases h
theorem So{t:TypeId}{mem mem':aK}{a:AV}{out:dI}(h:jY P t mem a=some out)(V:(o9 out.v).isSome=true){b:Nat}(Y:out.rd= [b])(hc:(a8 mem b).isSome=true)(K:a8 mem' b=a8 mem b):jY P t mem' a=some out:=by
 unfold jY at h⊢
 cases a with
 |ptr b' g i c=>
  simp only at h⊢
  rw[bind_some]at h;obtain⟨bx,H,h⟩:=h;unfold box? at H;split at H
  ·rename_i x hx;have U:Nat.beq x.gen g=true:=by
    cases U:Nat.beq x.gen g with
    |true=>rfl
    |false=>rw[U]at H;cases H
   rw[U]at H;have N:x.row.isOwn=false:=by
    cases N:x.row.isOwn with
    |false=>rfl
    |true=>rw[N]at H;cases H
   rw[N]at H;obtain rfl:=ya (show some x=some bx from H);split at h
   ·rename_i e cs J;rw[bind_some]at h;obtain⟨ag,hag,h⟩:=h;cases ag with
    |true=>
     simp only[yg]at h;rw[bind_some]at h;obtain⟨n,_,h⟩:=h;rw[aA]at h;obtain rfl:=(ya h.2)
     simp[o9]at V
    |false=>
     simp only[yh]at h;obtain⟨v,hv,rfl⟩:=ye.1 h;obtain rfl:b'=b:=by simpa using Y
     obtain⟨q,hq⟩:=Option.isSome_iff_exists.1 V;have Z:a8 mem b'=some (x.gen,e,cs.map o9):=by unfold a8 iP;rw[hx];simp only[J]
     rw[Z]at K;unfold a8 at K;split at K
     ·rename_i x' W;unfold iP at K;split at K
      ·rename_i e' O M;obtain⟨hg',he',hl'⟩:x'.gen=x.gen/\e'=e/\O.map o9=cs.map o9:=by
        have:=ya K;simp only[Prod.mk.injEq]at this;exact this
       unfold box?;rw[W];simp only[hg',U,aZ.isOwn,yc3,yz3,yg,yb,M,he',hag,yh];have:(O.map o9)[i*e+c]?=some (some q):=by rw[hl',yg1,hv];simp[hq]
       rw[yg1]at this;obtain⟨v',hv',hq'⟩:=ye.1 this;rw[hv',yl,LR hq',show v=_ from LR hq]
      ·cases K
     ·cases K
   ·rename_i k xs J;rw[aA]at h;obtain⟨_,h⟩:=h;rw[aA]at h;obtain⟨_,h⟩:=h;obtain⟨y,_,rfl⟩:=ye.1 h;simp[o9]at V
   ·rename_i β e xs J;rw[bind_some]at h;obtain⟨y,_,h⟩:=h;obtain⟨u,_,rfl⟩:=ye.1 h;obtain rfl:b'=b:=by simpa using Y
    unfold a8 iP at hc;rw[hx]at hc;simp only[J]at hc;cases hc
   ·cases h
  ·cases H
 |el β p c=>
  simp only at h;obtain⟨u,_,rfl⟩:=ye.1 h;cases Y
 |_=>cases h
theorem Su{op:Op}{mem:aK}{v:AV}{rd:List Nat}(h:Qd op mem v rd=true):(∃t a,op= .load t a)/\(o9 v).isSome=true/\∃b,rd= [b]/\(a8 mem b).isSome=true:=by
 unfold Qd at h;simp only[yc]at h;obtain⟨⟨K,M⟩,H⟩:=h;refine⟨?_,?_,?_⟩
 ·unfold NI at K;split at K
  ·exact⟨_,_,rfl⟩
  ·cases K
 ·split at M
  ·rename_i q J;rw[J];rfl
  ·cases M
 ·split at H
  ·rename_i b;refine⟨b,rfl,?_⟩;split at H
   ·rename_i q J;rw[J];rfl
   ·cases H
  ·cases H
theorem TA{L:Nat}{all:List Tr}{t:Tr}:(Ie L all t).rd=t.rd\/(t.rc=true/\∃b,t.rd= [b]/\M6 L all b=true):=by
 unfold Ie;cases hc:(t.rc&&(match t.rd with| [b]=>M6 L all b|_=>false))with
 |false=>left;rfl
 |true=>
  right;simp only[yc]at hc;refine⟨hc.1,?_⟩;have H:=hc.2;split at H
  ·rename_i b J;exact⟨b,J,H⟩
  ·cases H
theorem gZ{L:Nat}{all:List Tr}{t:Tr}:(Ie L all t).i=t.i/\(Ie L all t).wr=t.wr/\(Ie L all t).push=t.push:=by
 unfold Ie;cases(t.rc&&(match t.rd with| [b]=>M6 L all b|_=>false))<;>exact⟨rfl,rfl,rfl⟩
theorem kF.agree{L:Nat}{all:List Tr}{o:Oper}{i rs:Nat}{st K:St}{e:kD}(h:kF P C an rid ops o i rs st e)(hA:wV (R0 ops o) (T6 L all e) st K)(hl:mO o=true->K.mem.length=st.mem.length)
  (hK: ∀t b,e.tr=some t->M6 L all b=true->t.rc=true->t.rd= [b]->a8 K.mem b=a8 st.mem b): ∃e',kF P C an rid ops o i rs K e'/\e'.v=e.v/\e'.wr=e.wr/\e'.push=e.push:=by
 have N: ∀{j:Nat} {J:Bool} {d:Nat},o.guard=some (j,J)->(ops[j]?).bind (·.dst)=some d->K.tmps[d]?=st.tmps[d]?:=by
  intro j J d hg Z;refine hA.1 d ?_;unfold R0 Oper.looksAt;rw[hg];refine ya2 _ ?_;simp[Z]
 cases h with
 |run out hres H hg=>
  refine⟨_,.run out (λhm=>?_) ?_ (λj J h=>?_),rfl,rfl,rfl⟩
  ·have:=hres hm;unfold Aa at this⊢
   rw[hA.2 rs ⟨_,rfl,.inr (by simp[dI.tr,hm])⟩];exact this
  ·have h1:Ii P C (bG rid i an.own) false (bG rid i an.boxed) (bG rid i an.raw) (bG rid i an.vars) o (cC st.tmps) K.mem rs=some out:=by
    rcases TA (L:=L) (all:=all) (t:=out.tr (eE o.op) rs i o.op st.mem)with hrd|⟨hrc,b,V,hcst⟩
    ·exact Ua (mem':=K.mem) hl H (λb V=>hA.2 b ⟨_,rfl,.inl (by rw[hrd];simpa[dI.tr]using V)⟩)
    ·obtain⟨⟨t,a,W⟩,hp,b',hb',M⟩:=Su (show Qd o.op st.mem out.v out.rd=true from hrc);have V:out.rd= [b]:=V;obtain rfl:b=b':=by rw[V]at hb';simpa using hb'
     have hke:=hK _ b rfl hcst hrc V;have U: ∀{m:aK},(a8 m b).isSome=true->yT m b=false:=by
      intro m hm;unfold a8 at hm;unfold yT;split at hm
      ·rename_i x Y;unfold iP at hm;split at hm
       ·rename_i e cs hr;simp only[hr];rfl
       ·cases hm
      ·cases hm
     have hno:bQ (bG rid i an.own) (cC st.tmps) st.mem o.op=false/\bQ (bG rid i an.own) (cC st.tmps) K.mem o.op=false:=by
      rw[W];simp only[bQ,m7];cases Y:cC st.tmps a with
      |none=>exact⟨rfl,rfl⟩
      |some x=>
       cases x with
       |ptr b2 g2 i2 c2=>
        have hb2:b2=b:=by
         unfold Ii at H;cases how:bQ (bG rid i an.own) (cC st.tmps) st.mem o.op with
         |false=>
          rw[how]at H;simp only[yh]at H;unfold OV at H;rw[W]at H;simp only at H;rw[bind_some]at H;obtain⟨x,O,H⟩:=H;rw[Y]at O;obtain rfl:=ya O;have:=Me H;rw[V]at this;simpa using this
         |true=>
          rw[how]at H;simp only[yg]at H;unfold Ic at H;rw[W]at H;simp only at H;rw[bind_some]at H;obtain⟨x,O,H⟩:=H;rw[Y]at O;obtain rfl:=ya O;have:=(MU H (λ_ _=>rfl)).2 b2 g2 i2 c2 rfl;rw[V]at this;simpa using this
        subst hb2;exact⟨U M,U (by rw[hke];exact M)⟩
       |_=>exact⟨rfl,rfl⟩
     unfold Ii at H⊢
     rw[hno.1]at H;rw[hno.2];simp only[yh]at H⊢
     unfold OV at H⊢
     rw[W]at H⊢
     simp only at H⊢
     rw[bind_some]at H⊢
     obtain⟨x,Y,H⟩:=H;exact⟨x,Y,So H hp V M hke⟩
   rw[<-h1];refine SQ λx Y=>?_;cases x with
   |tmp t=>
    simp only[cC,Fo,bA];rw[hA.1 t];unfold R0 Oper.looksAt;exact yz1 _ (List.mem_filterMap.2 ⟨.tmp t,by simpa using Y,rfl⟩)
   |const v=>rfl
   |func f=>rfl
   |global g=>rfl
  ·obtain⟨d,Z,V⟩:=hg j J h;exact⟨d,Z,by rw[N h Z];exact V⟩
 |skip j J d hg Z h=>
  refine⟨_,.skip j J d hg Z ?_,rfl,rfl,rfl⟩;rw[N hg Z];exact h
noncomputable def cM(D:Nat->Bool):Nat->List (Oper×kD)->St->St
 |_,[],st=>st
 |i,(o,e)::r,st=>cM D (i+1) r (bif D i then e.app o.dst st else st)
theorem pT{D D':Nat->Bool}: ∀{l:List (Oper×kD)} {i:Nat} {st:St},(∀k,i≤k->k<i+l.length->D k=D' k)->cM D i l st=cM D' i l st
 | [],i,st,_=>rfl
 |(o,e)::r,i,st,h=>by
  simp only[cM];rw[h i (ya1 _) (by simp)];exact pT λk h1 H=>h k (by omega) (by simp at H⊢;omega)
inductive Fk (P:Program) (C:bX) (an:nB) (rid:Nat) (ops:Array Oper):Nat->Nat->St->List (Oper×kD)->Prop
 |nil (i rs:Nat) (st:St):Fk P C an rid ops i rs st []
 |cons (o:Oper) (e:kD) (r:List (Oper×kD)) (i rs:Nat) (st:St) (h:kF P C an rid ops o i rs st e) (hr:Fk P C an rid ops (i+1) (bif eE o.op then rs+1 else rs) (e.app o.dst st) r):
   Fk P C an rid ops i rs st ((o,e)::r)
variable {R:Type}
theorem Hm{k:St->List Tr->Option R}{r:R}: ∀{rest:List Oper} {i rs:Nat} {st:St} {tr:List Tr},vM P C an false rid (ops.toList.map (·.dst)) rest i rs st tr k=some r->
  ∃l,l.map (·.1)=rest/\Fk P C an rid ops i rs st l/\k (cM (λ_=>true) i l st) ((l.filterMap (·.2.tr)).reverse++tr)=some r
 | [],i,rs,st,tr,h=>⟨[],rfl,.nil i rs st,by simpa[vM,cM]using h⟩
 |o::rest,i,rs,st,tr,h=>by
  obtain⟨N,t,H,J⟩:=I9 h;obtain⟨e,K,rfl,rfl⟩:=H.two;obtain⟨l,O,hc,M⟩:=Hm J;refine⟨(o,e)::l,by simp[O],.cons o e l i rs st K hc,?_⟩;simp only[cM,yg]
  have:((((o,e)::l).filterMap (·.2.tr)).reverse++tr)=(l.filterMap (·.2.tr)).reverse++(e.tr.toList++tr):=by
   cases ht:e.tr with
   |none=>simp[List.filterMap_cons,ht]
   |some t=>simp[List.filterMap_cons,ht]
  rw[this];exact M
theorem A8{D:Nat->Bool}: ∀{l:List (Oper×kD)} {i:Nat} {st:St},(∀k,i≤k->D k=false)->cM D i l st=st
 | [],i,st,_=>rfl
 |(o,e)::r,i,st,h=>by
  simp only[cM,h i (ya1 _),yh];exact A8 λk hk=>h k (by omega)
theorem Fk.get: ∀{l:List (Oper×kD)} {i rs:Nat} {st:St} {j:Nat} {o:Oper} {e:kD},Fk P C an rid ops i rs st l->l[j]?=some (o,e)->∃H,kF P C an rid ops o (i+j) H (cM (λk=>Nat.blt k (i+j)) i l st) e
 | [],i,rs,st,j,o,e,_,h=>by simp at h
 |(N,e')::l,i,rs,st,0,o,e,hc,h=>by
  cases hc with
  |cons _ _ _ _ _ _ K hr=>
   simp at h;obtain⟨rfl,rfl⟩:=h;refine⟨rs,?_⟩;rw[A8 (λk hk=>by cases M:Nat.blt k (i+0)with|false=>rfl|true=>simp[Nat.blt]at M;omega)];exact K
 |(N,e')::l,i,rs,st,j+1,o,e,hc,h=>by
  cases hc with
  |cons _ _ _ _ _ _ K hr=>
   obtain⟨H,J⟩:=hr.get (j:=j) (by simpa using h);refine⟨H,?_⟩;rw[show i+1+j=i+(j+1) by omega]at J;simp only[cM];have:Nat.blt i (i+(j+1))=true:=by simp[Nat.blt]
   rw[this];exact J
theorem QY{m H:aK}{b:Nat}(h:H[b]?=m[b]?): ∀{wr:List (Nat×bK)},(aN H wr)[b]?=(aN m wr)[b]?:=by
 intro wr
 induction wr generalizing m H with
 |nil=>exact h
 |cons q r M=>
  obtain⟨c,x⟩:=q;simp only[aN];refine M ?_;rw[List.getElem?_set,List.getElem?_set];by_cases hc:c=b
  ·subst hc;simp only[if_true];by_cases K:c<m.length
   ·have:c<H.length:=by
     rcases yl2 c H.length with J|J
     ·exact J
     ·rw[yd1 J,yf K]at h;cases h
    rw[if_pos K,if_pos this]
   ·have: ¬c<H.length:=by
     intro J;rw[yf J,yd1 (by omega)]at h;cases h
    rw[if_neg K,if_neg this]
  ·rw[if_neg hc,if_neg hc];exact h
theorem Oa{m:aK}{b:Nat}: ∀{wr:List (Nat×bK)},(∀q∈wr,q.1≠b)->(aN m wr)[b]?=m[b]?:=by
 intro wr
 induction wr generalizing m with
 |nil=>intro _;rfl
 |cons q r H=>
  obtain⟨c,x⟩:=q;intro h;simp only[aN];rw[H (λq J=>h q (yj _ J)),yo (h (c,x) (yn ..))]
theorem NZ{m:aK}{c:Nat}{x:Option bK}: ∀{wr:List (Nat×bK)},(∀q∈wr,q.1≠c)->aN (m.set c x) wr=(aN m wr).set c x:=by
 intro wr
 induction wr generalizing m with
 |nil=>intro _;rfl
 |cons q r H=>
  obtain⟨d,y⟩:=q;intro h;simp only[aN];rw[List.set_comm _ _ (λe=>h (d,y) (yn ..) e.symm),H (λq J=>h q (yj _ J))]
theorem LG{m:aK}{a:List (Nat×bK)}: ∀{b:List (Nat×bK)},(∀q∈b,∀H∈a,q.1≠H.1)->aN (aN m a) b=aN (aN m b) a:=by
 intro b
 induction b generalizing m with
 |nil=>intro _;rfl
 |cons q r K=>
  obtain⟨c,x⟩:=q;intro h;simp only[aN];rw[<-K (λq M=>h q (yj _ M)),NZ (λH J e=>h (c,x) (yn ..) H J e.symm)]
theorem By{m p:aK}: ∀{wr:List (Nat×bK)},(∀q∈wr,q.1<m.length)->aN (m++p) wr=aN m wr++p:=by
 intro wr
 induction wr generalizing m with
 |nil=>intro _;rfl
 |cons q r H=>
  obtain⟨c,x⟩:=q;intro h;simp only[aN];rw[List.set_append_left _ _ (h (c,x) (yn ..)),H (λq J=>by simpa using h q (yj _ J))]
structure TC (L:Nat) (d1 d2:Option Tmp) (e1 e2:kD):Prop where
 dst: ∀d,d1=some d->d2≠some d
 wr: ∀q∈e1.wr,∀q'∈e2.wr,q.1≠q'.1
 push:e1.push= []\/e2.push= []
 low1:e1.push≠ []->∀q∈e2.wr,q.1<L
 low2:e2.push≠ []->∀q∈e1.wr,q.1<L
theorem PH{tmps:List AV}{H J:Option Tmp}{K M:AV}(h: ∀d,H=some d->J≠some d):nM (nM tmps H K) J M=nM (nM tmps J M) H K:=by
 cases H with
 |none=>rfl
 |some a=>
  cases J with
  |none=>rfl
  |some b=>simp only[nM,d8];rw[List.set_comm _ _ (λe=>h a rfl (by rw[e]))]
theorem kD.comm{L:Nat}{V W:Option Tmp}{K J:kD}{st:St}(hm:TC L V W K J)(Z:L≤st.mem.length):J.app W (K.app V st)=K.app V (J.app W st):=by
 have M:aN (aN st.mem K.wr++K.push) J.wr++J.push=aN (aN st.mem J.wr++J.push) K.wr++K.push:=by
  have H:=LG (m:=st.mem) (a:=K.wr) (b:=J.wr) (λq N q' Y e=>hm.wr q' Y q N e.symm);by_cases U:K.push= []
  ·by_cases O:J.push= []
   ·rw[U,O];simp only[yo1];exact H
   ·rw[U];simp only[yo1];rw[By (m:=aN st.mem J.wr) (λq N=>by rw[bY];exact yj2 (hm.low2 O q N) Z),H]
  ·have O:J.push= []:=hm.push.resolve_left U;rw[O];simp only[yo1];rw[By (m:=aN st.mem K.wr) (λq N=>by rw[bY];exact yj2 (hm.low1 U q N) Z),H]
 simp only[kD.app,M,PH hm.dst]
end
end Go.Ab
end
section
namespace Go.Ab
variable [cF]
def C6(ops:Array Oper)(D:Nat->Bool):Prop:= ∀(j:Nat) (o:Oper),ops[j]?=some o->∀e∈o.after,Region.binds .any e=true->D j=true->D e.on=true
theorem A9{acc:List Nat}: ∀{O:List Edge} {i:Nat},(Cq acc O).testBit i=true->∃e∈O,Region.binds .any e=true/\(i=e.on\/(acc.getD e.on 0).testBit i=true)
 | [],i,h=>by simp[Cq]at h
 |e::r,i,h=>by
  simp only[Cq]at h;cases H:Region.binds .any e with
  |true=>
   rw[H]at h;simp only[yg,Nat.testBit_or,yc2]at h;rcases h with (h|h)|h
   ·refine⟨e,yn ..,H,.inl ?_⟩;rw[Nat.testBit_two_pow]at h;exact(of_decide_eq_true h).symm
   ·exact⟨e,yn ..,H,.inr h⟩
   ·obtain⟨K,N,J,M⟩:=A9 h;exact⟨K,yj _ N,J,M⟩
  |false=>
   rw[H]at h;simp only[yh]at h;obtain⟨K,N,J,M⟩:=A9 h;exact⟨K,yj _ N,J,M⟩
theorem wA{i:Nat}: ∀{K:List Edge},BU i K=true->∀e∈K,Region.binds .any e=true->e.on<i
 | [],_,e,H,_=>by simp at H
 |x::r,h,e,H,M=>by
  simp only[BU,yc,yc2,yw]at h;rcases yj1.1 H with rfl|H
  ·rcases h.1 with J|J
   ·rw[M]at J;cases J
   ·simp[Nat.blt]at J;omega
  ·exact wA h.2 e H M
theorem qL: ∀{l:List Oper} {i j:Nat} {o:Oper},kB l i=true->l[j]?=some o->BU (i+j) o.after.toList=true
 | [],i,j,o,_,h=>by simp at h
 |x::r,i,0,o,h,H=>by
  simp only[kB,yc]at h;simp at H;subst H;exact h.1
 |x::r,i,j+1,o,h,H=>by
  simp only[kB,yc]at h;have:=qL (j:=j) h.2 (by simpa using H);rw[show i+(j+1)=i+1+j by omega];exact this
theorem MI{ops:Array Oper}(hE:kB ops.toList 0=true): ∀{l:List Oper} {acc:List Nat},ops.toList.drop acc.length=l->acc.length≤ops.size->
  (∀j i,j<acc.length->(acc.getD j 0).testBit i=true->i<j/\∀D,C6 ops D->D j=true->D i=true)->
  ∀j i,((x9 l acc).getD j 0).testBit i=true->i<j/\j<ops.size/\∀D,C6 ops D->D j=true->D i=true
 | [],acc,K,Z,h=>by
  intro j i J;simp only[x9]at J;by_cases U:j<acc.length
  ·exact⟨(h j i U J).1,by omega,(h j i U J).2⟩
  ·rw[ym,yd1 (by omega)]at J;simp at J
 |o::r,acc,K,Z,h=>by
  simp only[x9];have W:ops[acc.length]?=some o:=by
   have:(ops.toList.drop acc.length)[0]?=some o:=by rw[K];rfl
   rw[ye1,yw1,yq1]at this;exact this
  have hlt:acc.length<ops.size:=(yb3.1 W).1;refine MI hE (l:=r) (by rw[yi,<-List.drop_drop,K];rfl) (by simp;omega) λj i U J=>?_;by_cases O:j<acc.length
  ·rw[ym,yq O,<-ym]at J;exact h j i O J
  ·have Y:j=acc.length:=by simp at U;omega
   subst Y;rw[ym,yx (ya1 _)]at J;simp only[yd4,ye3,Option.getD_some]at J;obtain⟨e,he,H,V⟩:=A9 J;have M:=wA (by have:=qL (j:=acc.length) hE (by rw[yq1];exact W);rwa[yc1]at this) e he H;have N: ∀D,C6 ops D->D acc.length=true->D e.on=true:=λD hD K=>hD acc.length o W e (by simpa using he) H K;rcases V with rfl|V
   ·exact⟨M,N⟩
   ·obtain⟨h1,h2⟩:=h e.on i M V;exact⟨by omega,λD hD K=>h2 D hD (N D hD K)⟩
theorem rL{ops:Array Oper}(hE:kB ops.toList 0=true){j i:Nat}(h:((x9 ops.toList []).getD j 0).testBit i=true):i<j/\∀D,C6 ops D->D j=true->D i=true:=by
 obtain⟨K,_,H⟩:=MI hE (l:=ops.toList) (acc:= []) (by simp) (by simp) (λj i J _=>by simp at J) j i h;exact⟨K,H⟩
theorem HA: ∀{n a j:Nat},a≤j->j<a+n->j∈p0 a n
 |0,a,j,H,J=>by omega
 |n+1,a,j,H,J=>by
  simp only[p0];rcases yl2 a j with h|h
  ·exact yj _ (HA (by omega) (by omega))
  ·obtain rfl:j=a:=by omega
   exact yn ..
theorem BT{ops:Array Oper}{bs:List Nat}{i:Nat}: ∀{l:List Nat},BS ops bs i l=true->∀j∈l,c9 bs i j=true\/Cc ops i j=true
 | [],_,j,H=>by simp at H
 |x::r,h,j,H=>by
  simp only[BS,yc,yc2]at h;rcases yj1.1 H with rfl|H
  ·exact h.1
  ·exact BT h.2 j H
theorem sR{ops:Array Oper}{bs:List Nat}: ∀{n a i j:Nat},Cm ops bs (p0 a n)=true->a≤i->i<j->j<a+n->c9 bs i j=true\/Cc ops i j=true
 |0,a,i,j,_,K,H,J=>by omega
 |n+1,a,i,j,h,K,H,J=>by
  simp only[p0,Cm,yc]at h;rcases yl2 a i with N|M
  ·exact sR h.2 (by omega) H (by omega)
  ·obtain rfl:i=a:=by omega
   exact BT h.1 j (HA (by omega) (by omega))
theorem Fe{bs:List Nat}{i:Nat}: ∀{l:List Oper} {s j:Nat} {o:Oper},yY bs i l s=true->l[j]?=some o->i=s+j\/c9 bs i (s+j)=true\/mO o=false
 | [],s,j,o,_,h=>by simp at h
 |x::r,s,0,o,h,H=>by
  simp only[yY,yc,yc2,yw]at h;simp at H;subst H;rcases h.1 with (h|h)|h
  ·exact .inl (bN.1 h)
  ·exact .inr (.inl h)
  ·exact .inr (.inr h)
 |x::r,s,j+1,o,h,H=>by
  simp only[yY,yc]at h;have:=Fe (j:=j) h.2 (by simpa using H);rw[show s+(j+1)=s+1+j by omega];exact this
theorem HV{ops:Array Oper}{bs:List Nat}: ∀{l:List Tr},Jy ops bs l=true->∀a∈l,a.push=true->yY bs a.i ops.toList 0=true
 | [],_,a,H,_=>by simp at H
 |x::r,h,a,H,K=>by
  simp only[Jy,yc,yc2,yw]at h;rcases yj1.1 H with rfl|H
  ·rcases h.1 with J|J
   ·rw[K]at J;cases J
   ·exact J
  ·exact HV h.2 a H K
structure In (bs:List Nat) (L:Nat) (a b:Tr):Prop where
 push:c9 bs a.i b.i=false->a.push=true->b.push=true->False
 far:c9 bs a.i b.i=false->(∀x∈a.wr,x∉b.rd)/\(∀x∈a.rd,x∉b.wr)/\(∀x∈a.wr,x∉b.wr)/\(a.push=true->(∀x∈b.rd,x<L)/\∀x∈b.wr,x<L)/\(b.push=true->(∀x∈a.rd,x<L)/\∀x∈a.wr,x<L)
theorem q8{m:Nat}: ∀{l:List Nat},gB m l=true->∀b∈l,b<m
 | [],_,b,h=>by simp at h
 |x::r,h,b,H=>by
  simp only[gB,yc]at h;rcases yj1.1 H with rfl|H
  ·have:=h.1;simp[Nat.blt]at this;omega
  ·exact q8 h.2 b H
theorem LD{bs:List Nat}{L:Nat}{a:Tr}: ∀{l:List Tr},SJ bs L a l=true->∀b∈l,In bs L a b
 | [],_,b,h=>by simp at h
 |x::r,h,b,N=>by
  simp only[SJ,yc]at h;rcases yj1.1 N with rfl|N
  ·refine⟨λK O U=>by have:=h.1;rw[K,O,U]at this;simp at this,λK=>?_⟩;have:=h.1;rw[K]at this;simp only[yg4,yc,yc2,yw]at this;obtain⟨⟨⟨⟨⟨_,O⟩,U⟩,V⟩,H⟩,J⟩:=this;refine⟨y0 O,y0 U,y0 V,λM=>?_,λM=>?_⟩
   ·rcases H with H|H
    ·rw[M]at H;cases H
    ·exact⟨q8 H.1,q8 H.2⟩
   ·rcases J with J|J
    ·rw[M]at J;cases J
    ·exact⟨q8 J.1,q8 J.2⟩
  ·exact LD h.2 b N
theorem vX{bs:List Nat}{L:Nat}: ∀{l:List Tr},Pl bs L l=true->l.Pairwise (In bs L)
 | [],_=> .nil
 |a::r,h=>by
  simp only[Pl,yc]at h;exact .cons (LD h.1) (vX h.2)
theorem nC{bs:List Nat}{i j:Nat}:c9 bs i j=c9 bs j i:=by unfold c9;rw[Bool.or_comm]
theorem In.symm{bs:List Nat}{L:Nat}{a b:Tr}(h:In bs L a b):In bs L b a:=
 ⟨λK M N=>h.push (by rw[nC];exact K) N M,λK=>by
  obtain⟨M,N,O,U,V⟩:=h.far (by rw[nC];exact K)
  exact⟨λx J H=>N x H J,λx J H=>M x H J,λx J H=>O x H J,V,U⟩⟩
section
variable {P:Program} {C:bX} {an:nB} {rid:Nat} {ops:Array Oper}
theorem kF.facts{o:Oper}{i rs:Nat}{st:St}{e:kD}(h:kF P C an rid ops o i rs st e):
  (∀q∈e.wr,∃t,e.tr=some t/\q.1∈t.wr)/\(e.push≠ []->∃t,e.tr=some t/\t.push=true)/\(∀t,e.tr=some t->t.i=i):=by
 cases h with
 |run out K ho O=>
  refine⟨λq H=>⟨_,rfl,?_⟩,λJ=>⟨_,rfl,?_⟩,λt ht=>?_⟩
  ·simp only[dI.tr];cases eE o.op with
   |true=>simp only[yg];exact yj _ (yh3.2 ⟨q,H,rfl⟩)
   |false=>simp only[yh];exact yh3.2 ⟨q,H,rfl⟩
  ·show(match out.push with| []=>false|_=>true)=true
   split
   ·rename_i N;exact absurd N J
   ·rfl
  ·cases ht;rfl
 |skip j M d O hd h=>exact⟨λq H=>by simp at H,λJ=>absurd rfl J,λt ht=>by cases ht⟩
structure FD (S F:Nat->Prop) (L:Nat) (o:Oper) (e:kD):Prop where
 dst: ∀d,o.dst=some d->¬S d
 wr: ∀q∈e.wr,¬F q.1
 push:e.push≠ []->∀b,F b->b<L
theorem mE(e:kD)(d:Option Tmp)(st:St):(e.app d st).mem.length=st.mem.length+e.push.length:=by simp[kD.app,bY]
theorem wV.symm{S F:Nat->Prop}{st H:St}(h:wV S F st H):wV S F H st:=⟨λd J=>(h.1 d J).symm,λb K=>(h.2 b K).symm⟩
theorem I1{S F:Nat->Prop}{L:Nat}{o:Oper}{e:kD}{st H:St}(h:wV S F st H)(hn:FD S F L o e)(V:L≤H.mem.length):wV S F st (e.app o.dst H):=by
 refine⟨λd O=>?_,λb M=>?_⟩
 ·rw[<-h.1 d O];simp only[kD.app];cases K:o.dst with
  |none=>rfl
  |some t=>
   simp only[nM,d8];exact yo (λe=>hn.dst t K (by rw[e];exact O))
 ·rw[<-h.2 b M];simp only[kD.app];have J:(aN H.mem e.wr)[b]?=H.mem[b]?:=Oa λq U e=>hn.wr q U (by rw[e];exact M);by_cases N:e.push= []
  ·rw[N,yo1];exact J
  ·rw[yq (by rw[bY];exact yj2 (hn.push N b M) V)];exact J
theorem Ng{S F:Nat->Prop}{d:Option Tmp}{e:kD}{st H:St}(h:wV S F st H)(J:e.push≠ []->H.mem.length=st.mem.length):wV S F (e.app d st) (e.app d H):=by
 refine⟨λt ht=>?_,λb U=>?_⟩
 ·simp only[kD.app];cases d with
  |none=>exact h.1 t ht
  |some d=>
   simp only[nM,d8];have:=h.1 t ht;rw[List.getElem?_set,List.getElem?_set];by_cases N:d=t
   ·subst N;simp only[if_true];by_cases J:d<st.tmps.length
    ·have K:d<H.tmps.length:=by
      rcases yl2 d H.tmps.length with K|K
      ·exact K
      ·rw[yd1 K,yf J]at this;cases this
     rw[if_pos J,if_pos K]
    ·have K: ¬d<H.tmps.length:=by
      intro K;rw[yf K,yd1 (Nat.le_of_not_lt J)]at this;cases this
     rw[if_neg J,if_neg K]
   ·rw[if_neg N,if_neg N];exact this
 ·simp only[kD.app];have hs:(aN H.mem e.wr)[b]?=(aN st.mem e.wr)[b]?:=QY (h.2 b U);by_cases O:e.push= []
  ·rw[O,yo1,yo1];exact hs
  ·have J:=J O;by_cases M:b<st.mem.length
   ·rw[yq (by rw[bY,J];exact M),yq (by rw[bY];exact M)];exact hs
   ·rw[yx (by rw[bY,J];omega),yx (by rw[bY];omega),bY,bY,J]
def CR(D:Nat->Bool)(i:Nat)(l:List (Oper×kD)):Prop:= ∀(k k':Nat) (q q':Oper×kD),k<k'->l[k]?=some q->l[k']?=some q'->q.2.push≠ []->q'.2.push≠ []->D (i+k')=true->D (i+k)=true
theorem CR.tail{D:Nat->Bool}{i:Nat}{q:Oper×kD}{l:List (Oper×kD)}(h:CR D i (q::l)):CR D (i+1) l:=λk H p U hk N J M O K=>by
 have:=h (k+1) (H+1) p U (by omega) (by simpa using N) (by simpa using J) M O (by rw[show i+(H+1)=i+1+H by omega];exact K);rwa[show i+(k+1)=i+1+k by omega]at this
theorem oI{S F:Nat->Prop}{L:Nat}{D D':Nat->Bool}: ∀{l:List (Oper×kD)} {i:Nat} {st J:St},L≤st.mem.length->L≤J.mem.length->
  (st.mem.length=J.mem.length\/∀(k:Nat) (q:Oper×kD),l[k]?=some q->q.2.push≠ []->D (i+k)=false\/D' (i+k)=false)->CR D i l->CR D' i l->
  (∀k o e,l[k]?=some (o,e)->D (i+k)≠D' (i+k)->FD S F L o e)->wV S F st J->wV S F (cM D i l st) (cM D' i l J)
 | [],i,st,J,_,_,_,_,_,_,h=>h
 |(o,e)::r,i,st,J,hl,M,Y,hc,O,hn,h=>by
  simp only[cM];have V: ∀k o' e',r[k]?=some (o',e')->D (i+1+k)≠D' (i+1+k)->FD S F L o' e':=λk o' e' N hne=>hn (k+1) o' e' (by simpa using N) (by rw[show i+(k+1)=i+1+k by omega];exact hne);have up: ∀{s:St},L≤s.mem.length->L≤(e.app o.dst s).mem.length:=λh=>by rw[mE];omega
  have Z:(∀(k:Nat) (q:Oper×kD),((o,e)::r)[k]?=some q->q.2.push≠ []->D (i+k)=false\/D' (i+k)=false)->∀(k:Nat) (q:Oper×kD),r[k]?=some q->q.2.push≠ []->D (i+1+k)=false\/D' (i+1+k)=false:=by
   intro hh k q N K;have:=hh (k+1) q (by simpa using N) K;rwa[show i+(k+1)=i+1+k by omega]at this
  have later:D i=false->e.push≠ []->∀(k:Nat) (q:Oper×kD),r[k]?=some q->q.2.push≠ []->D (i+1+k)=false:=by
   intro hd K k q N H;cases hdk:D (i+1+k)with
   |false=>rfl
   |true=>
    have:=hc 0 (k+1) (o,e) q (by omega) rfl (by simpa using N) K H (by rw[show i+(k+1)=i+1+k by omega];exact hdk);rw[yw1,hd]at this;cases this
  have W:D' i=false->e.push≠ []->∀(k:Nat) (q:Oper×kD),r[k]?=some q->q.2.push≠ []->D' (i+1+k)=false:=by
   intro hd K k q N H;cases hdk:D' (i+1+k)with
   |false=>rfl
   |true=>
    have:=O 0 (k+1) (o,e) q (by omega) rfl (by simpa using N) K H (by rw[show i+(k+1)=i+1+k by omega];exact hdk);rw[yw1,hd]at this;cases this
  cases hD:D i with
  |true=>
   cases U:D' i with
   |true=>
    have hlen:e.push≠ []->J.mem.length=st.mem.length:=by
     intro K;rcases Y with Y|Y
     ·exact Y.symm
     ·rcases Y 0 (o,e) rfl K with h|h
      ·rw[yw1,hD]at h;cases h
      ·rw[yw1,U]at h;cases h
    refine oI (up hl) (up M) (Y.imp (λh=>?_) Z) hc.tail O.tail V (Ng h hlen);simp only[yg,mE,h]
   |false=>
    have hnt:=hn 0 o e rfl (by rw[yw1,hD,U];simp);refine oI (up hl) M ?_ hc.tail O.tail V (I1 h.symm hnt hl).symm;by_cases K:e.push= []
    ·refine Y.imp (λh=>?_) Z;simp only[yg,yh,mE,K,yz2,yw1,h]
    ·exact .inr λk q N H=> .inr (W U K k q N H)
  |false=>
   cases U:D' i with
   |true=>
    have hnt:=hn 0 o e rfl (by rw[yw1,hD,U];simp);refine oI hl (up M) ?_ hc.tail O.tail V (I1 h hnt M);by_cases K:e.push= []
    ·refine Y.imp (λh=>?_) Z;simp only[yg,yh,mE,K,yz2,yw1,h]
    ·exact .inr λk q N H=> .inl (later hD K k q N H)
   |false=>exact oI hl M (Y.imp id Z) hc.tail O.tail V h
theorem Pn{D:Nat->Bool}: ∀{l:List (Oper×kD)} {i:Nat} {st:St},st.mem.length≤(cM D i l st).mem.length
 | [],i,st=>ya1 _
 |(o,e)::r,i,st=>by
  simp only[cM];refine yq2 ?_ (Pn (l:=r));cases D i with
  |true=>simp only[yg,mE];omega
  |false=>exact ya1 _
theorem Lv{D D':Nat->Bool}: ∀{l:List (Oper×kD)} {i:Nat} {st H:St},H.mem.length=st.mem.length->(∀k o e,l[k]?=some (o,e)->e.push≠ []->D (i+k)=D' (i+k))->(cM D' i l H).mem.length=(cM D i l st).mem.length
 | [],i,st,H,h,_=>h
 |(o,e)::r,i,st,H,h,hn=>by
  simp only[cM];refine Lv ?_ (λk M K N J=>by have:=hn (k+1) M K (by simpa using N) J;rwa[show i+(k+1)=i+1+k by omega]at this);by_cases J:e.push= []
  ·cases D i<;>cases D' i<;>simp only[yg,yh,mE,J,yz2,yw1]<;>exact h
  ·have:=hn 0 o e rfl J;rw[yw1]at this;rw[this];cases D' i<;>simp only[yg,yh,mE,h]
theorem sW{D:Nat->Bool}: ∀{a b:List (Oper×kD)} {i:Nat} {st:St},cM D i (a++b) st=cM D (i+a.length) b (cM D i a st)
 | [],b,i,st=>rfl
 |(o,e)::a,b,i,st=>by
  simp only[yk3,cM,yz];rw[sW,show i+1+a.length=i+(a.length+1) by omega]
theorem Hv{L:Nat}{D:Nat->Bool}{e:kD}{d:Option Tmp}: ∀{l:List (Oper×kD)} {i:Nat} {st:St},L≤st.mem.length->
  (∀k N O,l[k]?=some (N,O)->D (i+k)=true->TC L d N.dst e O)->cM D i l (e.app d st)=e.app d (cM D i l st)
 | [],i,st,_,_=>rfl
 |(N,O)::r,i,st,U,hm=>by
  simp only[cM];have J: ∀k K M,r[k]?=some (K,M)->D (i+1+k)=true->TC L d K.dst e M:=λk K M V W=>hm (k+1) K M (by simpa using V) (by rw[show i+(k+1)=i+1+k by omega];exact W);cases hD:D i with
  |true=>
   simp only[yg];have H:=hm 0 N O rfl (by rw[yw1];exact hD);rw[kD.comm H U];exact Hv (L:=L) (by rw[mE];omega) J
  |false=>
   simp only[yh];exact Hv (L:=L) U J
end
end Go.Ab
end
