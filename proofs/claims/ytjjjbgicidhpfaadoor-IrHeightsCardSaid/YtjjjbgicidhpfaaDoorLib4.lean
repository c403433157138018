/- The evaluator. -/
import Derived.Test.YtjjjbgicidhpfaaDoorLib3
import Derived.ScopeJumps
set_option linter.unusedVariables false
set_option linter.unusedSectionVars false
set_option linter.unusedSimpArgs false
section
namespace Go.Ab
variable [cS]
def n6(f:mS)(mem:aO)(a:Nat)(x:bV):bV:=
 {gen:=(match rK mem a with|some h=>h+x.gen|none=>0),frz:=x.frz,row:=x.row.ren f}
theorem cI: ∀{wr:List (Nat×bV)} {mem:aO},(aR mem wr).length=mem.length
 | [],mem=>rfl
 |(b,x)::r,mem=>by rw[aR,cI];simp
theorem qM{f:mS}{mem:aO}: ∀{ids:List Nat} {q H:aO} {b:Nat},(∀(j:Nat) (y:bV),ids[j]?=some b->q[j]?=some (some y)->False)->(aR H (bR f mem ids q))[b]?=H[b]?
 | [],q,H,b,h=>by simp[bR,aR]
 |a::ids,[],H,b,h=>by simp[bR,aR]
 |a::ids,none::q,H,b,h=>by
  simp only[bR];exact qM (λj y K J=>h (j+1) y (by simpa using K) (by simpa using J))
 |a::ids,some x::q,H,b,h=>by
  simp only[bR,aR];rw[qM (ids:=ids) (q:=q) (λj y K J=>h (j+1) y (by simpa using K) (by simpa using J))];rw[yp (λe=>h 0 x (by simp[e]) (by simp))]
theorem zA{f:mS}{mem:aO}: ∀{ids:List Nat} {q H:aO} {b j:Nat} {y:bV},eN ids=true->ids[j]?=some b->q[j]?=some (some y)->b<H.length->
  (aR H (bR f mem ids q))[b]?=some (some (n6 f mem b y))
 | [],q,H,b,j,y,_,h,_,_=>by simp at h
 |a::ids,[],H,b,j,y,_,_,h,_=>by simp at h
 |a::ids,none::q,H,b,0,y,_,_,h,_=>by simp at h
 |a::ids,none::q,H,b,j+1,y,hn,J,K,M=>by
  simp only[bR];simp only[eN,yc]at hn;exact zA hn.2 (by simpa using J) (by simpa using K) M
 |a::ids,some x::q,H,b,0,y,hn,J,K,M=>by
  simp only[bR,aR];simp at J K;subst J K;simp only[eN,yc,yx]at hn;rw[qM (λj y J _=>by rw[sX.2 (yj J)]at hn;simp at hn),yt M];rfl
 |a::ids,some x::q,H,b,j+1,y,hn,J,K,M=>by
  simp only[bR,aR];simp only[eN,yc]at hn;exact zA hn.2 (by simpa using J) (by simpa using K) (by simpa using M)
theorem o8{f:mS}: ∀{m:aO} {i:Nat},(fZ f m)[i]?=(m[i]?).map λo=>o.map λx=>{gen:=0,frz:=x.frz,row:=x.row.ren f}
 | [],i=>by simp[fZ]
 |some x::r,0=>by simp[fZ]
 |none::r,0=>by simp[fZ]
 |some x::r,i+1=>by simp[fZ,o8 (m:=r)]
 |none::r,i+1=>by simp[fZ,o8 (m:=r)]
theorem AT{a b:List Nat}:zH a b=true->∀x∈a,x∉b:=by
 induction a with
 |nil=>simp
 |cons m r K=>
  intro h x H J;simp only[zH,yc,yx]at h;rcases yk1.1 H with rfl|H
  ·rw[sX.2 J]at h;simp at h
  ·exact K h.2 x H J
section
variable {P:Program}
def B7(G:Gh)(w:World)(mem:aO)(ids:List Nat)(B:Nat):Prop:=
 w.heap.size≤B\/∃(b:Nat) (x:bV) (C:Nat),b∈ids/\mem[b]?=some (some x)/\fP G b x C/\(B=C\/∃i c,c6 w C x.row i c B)
def Rj(G:Gh)(w:World)(mem:aO)(ids lent:List Nat):Gh:={loc:=yV 0 true G mem ids,prot:=(G.lend (bA G w mem lent)).prot,mine:=B7 G w mem ids}
theorem B7.mine{G:Gh}{w:World}{mem:aO}{ids:List Nat}{B:Nat}(hM:aJ G w mem)(h:B7 G w mem ids B):G.mine B:=by
 rcases h with h|⟨b,x,C,_,H,hC,rfl|⟨i,c,J⟩⟩
 ·exact hM.own B h
 ·let ⟨_,_,_,h,_⟩:=hM.blk H hC;exact h
 ·exact(hM.inn H hC J).1
theorem aJ.blk_lt{G:Gh}{w:World}{mem:aO}(hM:aJ G w mem){b:Nat}{x:bV}{L:Gi}{B:Nat}(H:mem[b]?=some (some x))(J:G.loc b x.gen=some L)(hB:L.blk=some B):B<w.heap.size:=hM.blkSz H ⟨L,J,hB⟩
theorem aJ.lent_apart{G:Gh}{w:World}{mem:aO}{ids lent:List Nat}(hM:aJ G w mem)(U:zH lent ids=true){b:Nat}{x:bV}{C B:Nat}(hb:b∈ids)(O:mem[b]?=some (some x))(hC:fP G b x C)(hB:B=C\/∃i c,c6 w C x.row i c B)(o:Nat): ¬bA G w mem lent B o:=by
 rintro⟨M,H,Z,Y,K,_,N,W⟩
 have J:M≠b:=by rintro rfl;exact AT U M H hb
 have hO:lR G w mem b B:=⟨M,Z,Y,J,K,N,W⟩
 rcases hB with rfl|⟨i,c,V⟩
 ·exact hM.other_ne O hC hO rfl
 ·exact hM.other_inn O hC V hO
theorem UY{G:Gh}{w:World}{mem:aO}{ids lent:List Nat}(hM:aJ G w mem)(hn:eN ids=true)(N:zH lent ids=true):aJ (Rj G w mem ids lent) w (e7 0 true (gR 0 true mem ids) mem 0 ids):=by
 refine Ie hM hn rfl (λ_ _ _ h=> .inl h) (λb x B K J hf hB β o H=>?_) (λb x B K J hB=> .inr ⟨b,x,B,K,J,hB,.inl rfl⟩) (λb x B i c B' K J hB M=>⟨.inr ⟨b,x,B,K,J,hB,.inr ⟨i,c,M⟩⟩,fun β o H=>?_⟩) (λB h=> .inl h) (λB o h=>?_) (fun β B o h=>?_)
 ·rcases H with H|⟨_,H⟩
  ·let ⟨_,_,_,_,_,_,_,h⟩:=hM.blk J hB;exact h hf β o H
  ·exact hM.lent_apart N K J hB (.inl rfl) o H
 ·rcases H with H|⟨_,H⟩
  ·exact(hM.inn J hB M).2.2.2 β o H
  ·exact hM.lent_apart N K J hB (.inr ⟨i,c,M⟩) o H
 ·rcases h with h|⟨h,_⟩
  ·exact .inl (hM.lab B o h)
  ·cases h
 ·rcases h with h|⟨_,h⟩
  ·exact hM.away β B o h
  ·exact hM.inBoxes_lt B o h
def jF(G G3:Gh)(mem q:aO)(ids:List Nat)(len:Nat):Nat->Nat->Option Gi:=λa g=>
 if a<mem.length then
  match As a ids 0 with
  |some j=>match q[j]? with
   |some (some y)=>if g=(n6 (λ_ _=>none) mem a y).gen then G3.loc j y.gen else G.loc a g
   |_=>G.loc a g
  |none=>G.loc a g
 else if g=0/\ids.length+(a-mem.length)<len then G3.loc (ids.length+(a-mem.length)) 0 else none
theorem vY: ∀{ids:List Nat} {b n j:Nat},eN ids=true->ids[j]?=some b->As b ids n=some (n+j)
 | [],b,n,j,_,h=>by simp at h
 |m::r,b,n,0,_,h=>by simp at h;subst h;simp[As]
 |m::r,b,n,j+1,hn,h=>by
  have J:m≠b:=by
   rintro rfl
   have:=wO (i:=0) (j:=j+1) hn (by simp) h;omega
  simp only[eN,yc]at hn;simp only[As];have H:Nat.beq m b=false:=by
   cases H:Nat.beq m b with
   |false=>rfl
   |true=>exact absurd (bZ.1 H) J
  rw[H];simp only[yg];rw[vY hn.2 (by simpa using h)];congr 1;omega
theorem Oi{G G3 G4:Gh}{w w':World}{mem q sub:aO}{ids lent:List Nat}{r:AV}{cv qv:Value}{qr:AV}(hM:aJ G w mem)(hn:eN ids=true)(hd:zH lent ids=true)
  (hR:V3 (Rj G w mem ids lent) w (e7 0 true (gR 0 true mem ids) mem 0 ids) (qr,q) G3 w' qv) (hlent:gV lent=true\/(r.lent=false/\kC q=false))
  (hv:VR G4 w' r cv) (h4m:G4.mine=G3.mine) (h4l:G4.loc=G3.loc) (h4p: ∀β B o,G3.prot β B o->G4.prot β B o) (h4n: ∀β B o,G4.prot β B o->G3.prot β B o\/oW G3 q sub.length B o) (h4lab: ∀B o,G4.prot false B o->G4.prot true B o)
  (hsub: ∀j:Nat,j<sub.length->sub[j]?=q[j]?) (hsl:ids.length≤sub.length) (hql:sub.length≤q.length):
  ∃G':Gh,VR G' w' (r.ren (dF mem sub ids)) cv/\dH G G'/\Ev G w w'/\aJ G' w' (aR mem (bR (dF mem sub ids) mem ids q)++fZ (dF mem sub ids) (sub.drop ids.length)):=by
 obtain⟨hv3,hev,hmine3,hprot3,hnew3,hM3,hgens,hkept,hnones⟩:=hR;simp only at hM3 hgens hkept hnones;have hpl:(e7 0 true (gR 0 true mem ids) mem 0 ids).length=ids.length:=by
  have h1: ∀(l:List Nat) (n:Nat),(e7 0 true (gR 0 true mem ids) mem n l).length=l.length:=by
   intro l
   induction l with
   |nil=>intro n;rfl
   |cons b l ih=>intro n;simp only[e7,yw,ih]
  exact h1 ids 0
 rw[hpl]at hgens
 -- a box of ids
 have hq: ∀{j a:Nat} {y:bV},ids[j]?=some a->q[j]?=some (some y)->∃x,mem[a]?=some (some x)/\y.row.isCells=x.row.isCells/\∀L,G.loc a x.gen=some L->G3.loc j 0=some L:=by
  intro j a y hj K;cases Z:mem[a]? with
  |none=>
   have:=hnones j (by rw[fV,hj];simp[Z]);rw[K]at this;cases this
  |some o=>
   cases o with
   |none=>
    have:=hnones j (by rw[fV,hj];simp[Z]);rw[K]at this;cases this
   |some x=>
    obtain⟨y',hy',hk,hl⟩:=hkept j {gen:=iC 0 true x.row.isCells j x.gen,frz:=x.frz,row:=x.row.ren (gR 0 true mem ids)} (by rw[fV,hj];simp[Z]);rw[K]at hy';obtain rfl:y=y':=by simpa using hy'
    simp only[dX]at hk hl;refine⟨x,rfl,hk,λL hL=>hl L ?_⟩;have h0:iC 0 true x.row.isCells j x.gen=0:=by simp[iC,Cy]
    simp[Rj,yV,hj,nL.2 ⟨x,Z,rfl⟩,pC Z,h0,hL]
 have hq2: ∀{j a:Nat} {x:bV},ids[j]?=some a->mem[a]?=some (some x)->∃y,q[j]?=some (some y):=by
  intro j a x hj Z;obtain⟨y',hy',_⟩:=hkept j {gen:=iC 0 true x.row.isCells j x.gen,frz:=x.frz,row:=x.row.ren (gR 0 true mem ids)} (by rw[fV,hj];simp[Z]);exact⟨y',hy'⟩
 have hbgen: ∀{a:Nat} {x y:bV} {f:mS},mem[a]?=some (some x)->(n6 f mem a y).gen=x.gen+y.gen:=by
  intro a x y f Z;simp[n6,nL.2 ⟨x,Z,rfl⟩]
 have hcome: ∀B,G3.mine B->B7 G w mem ids B:=λB h=>by rw[hmine3]at h;exact h
 have hEv:Ev G w w':=⟨hev.size,hev.out,hev.os,λB hB hm=>hev.away B hB (λh=>hm (B7.mine hM h)),hev.some,fun β B o h=>hev.prot β B o (.inl h),hev.fz,hev.tape⟩
 -- the protection
 let pr:Bool->Nat->Nat->Prop:=fun β B o=>if β=true then(if gV lent=true then G4.prot true B o else G.prot true B o\/G4.prot false B o)else G4.prot false B o
 have hnbc: ∀{b:Nat} {x:bV} {L:Gi} {B:Nat},q[b]?=some (some x)->G3.loc b x.gen=some L->L.blk=some B->B7 G w mem ids B:=λZ hl hB=>hcome _ (hM3.mine Z hl hB);have hnb4: ∀β B o,G4.prot β B o->G3.prot β B o\/B7 G w mem ids B:=fun β B o h=>(h4n β B o h).imp id (by rintro⟨b,x,L,_,Z,hl,hB⟩;exact hnbc Z hl hB);have hsem: ∀B o,gV lent=true->¬bA G w mem lent B o:=by
  rintro B o he ⟨b,hb,_⟩
  rw[qB he]at hb;cases hb
 have hprle: ∀β B o,pr β B o->(∃β',G.prot β' B o)\/B7 G w mem ids B:=by
  intro β B o h;have h3: ∀β,(β=true->gV lent=true)->G4.prot β B o->(∃β',G.prot β' B o)\/B7 G w mem ids B:=by
   intro β hβ h;rcases hnb4 β B o h with h|h
   ·rcases hnew3 β B o h with h|h
    ·rcases h with h|⟨h,h'⟩
     ·exact .inl ⟨_,h⟩
     ·exact absurd h' (hsem B o (hβ h))
    ·exact .inr h
   ·exact .inr h
  simp only[pr]at h;split at h
  ·split at h
   ·rename_i he;exact h3 true (λ_=>he) h
   ·rcases h with h|h
    ·exact .inl ⟨_,h⟩
    ·exact h3 false (λh=>by cases h) h
  ·exact h3 false (λh=>by cases h) h
 have hG4: ∀β B o,G.prot β B o->G4.prot β B o:=fun β B o h=>h4p β B o (hprot3 β B o (.inl h));have hprG: ∀β B o,G.prot β B o->pr β B o:=by
  intro β B o h;simp only[pr];cases β with
  |true=>simp only[if_true];split;exact hG4 _ _ _ h;exact .inl h
  |false=>simp only[yt2,if_false];exact hG4 _ _ _ h
 have hpr4: ∀β B o,pr β B o->∃β',G4.prot β' B o:=by
  intro β B o h;simp only[pr]at h;split at h
  ·split at h
   ·exact⟨_,h⟩
   ·rcases h with h|h
    ·exact⟨_,hG4 _ _ _ h⟩
    ·exact⟨_,h⟩
  ·exact⟨_,h⟩
 have hprnew: ∀β B o,pr β B o->G.prot β B o\/G.mine B:=by
  intro β B o h;have h3: ∀β,(β=true->gV lent=true)->G4.prot β B o->G.prot β B o\/G.mine B:=by
   intro β hβ h;rcases hnb4 β B o h with h|h
   ·rcases hnew3 β B o h with h|h
    ·rcases h with h|⟨h,h'⟩
     ·exact .inl h
     ·exact absurd h' (hsem B o (hβ h))
    ·exact .inr (B7.mine hM h)
   ·exact .inr (B7.mine hM h)
  simp only[pr]at h;split at h
  ·rename_i hβ;subst hβ;split at h
   ·rename_i he;exact h3 true (λ_=>he) h
   ·rcases h with h|h
    ·exact .inl h
    ·rcases h3 false (λh=>by cases h) h with h|h
     ·exact .inl (hM.lab _ _ h)
     ·exact .inr h
  ·rename_i hβ;have:β=false:=by simpa using hβ
   subst this;exact h3 false (λh=>by cases h) h
 let G':Gh:={mine:=G.mine,prot:=pr,loc:=jF G G3 mem q ids sub.length}
 have hlen:(aR mem (bR (dF mem sub ids) mem ids q)).length=mem.length:=cI
 -- where boxes stand
 have lB: ∀{j a:Nat} {y:bV} {f:mS},ids[j]?=some a->q[j]?=some (some y)->G'.loc a (n6 f mem a y).gen=G3.loc j y.gen:=by
  intro j a y f hj K;obtain⟨x,Z,_⟩:=hq hj K;have W:a<mem.length:=(yd.1 Z).1;show jF G G3 mem q ids sub.length a _=_;unfold jF;rw[if_pos W,vY hn hj];simp only[ye1,K];rw[if_pos (by rfl)]
 have lO: ∀{a g:Nat},a<mem.length->a∉ids->G'.loc a g=G.loc a g:=by
  intro a g W J;show jF G G3 mem q ids sub.length a g=_;unfold jF;rw[if_pos W];cases N:As a ids 0 with
  |none=>rfl
  |some j=>
   obtain⟨i,rfl,hj⟩:=Dc N;exact absurd (yj hj) J
 have lN: ∀{i:Nat},ids.length+i<sub.length->G'.loc (mem.length+i) 0=G3.loc (ids.length+i) 0:=by
  intro i N;show jF G G3 mem q ids sub.length (mem.length+i) 0=_;unfold jF;rw[if_neg (by omega),yy3,if_pos ⟨rfl,N⟩]
 have hGle:dH G G':=by
  refine⟨rfl,hprG,λa g L hL=>?_,hprnew⟩;by_cases W:a<mem.length
  ·show jF G G3 mem q ids sub.length a g=_;unfold jF;rw[if_pos W];cases N:As a ids 0 with
   |none=>exact hL
   |some j=>
    obtain⟨i,rfl,hj⟩:=Dc N;simp only[ye1];split
    ·rename_i y K;split
     ·rename_i hg;obtain⟨x,Z,hk,hc⟩:=hq hj K;rw[hbgen Z]at hg;subst hg;by_cases h0:y.gen=0
      ·rw[h0,ya2]at hL;rw[h0];exact hc L hL
      ·rw[hM.gens a x _ Z (by omega)]at hL;cases hL
     ·exact hL
    ·exact hL
  ·rw[hM.unset a g (λx Z=>W (yd.1 Z).1)]at hL;cases hL
 -- renaming back
 have hren:F2 G4 G' (dF mem sub ids):=by
  intro b g p L hp hL;unfold dF at hp;rw[h4l]at hL;split at hp
  ·rename_i a W;split at hp
   ·rename_i y h' K hgen;cases hge:Nat.beq y.gen g with
    |false=>rw[hge]at hp;cases hp
    |true=>
     rw[hge]at hp;simp only[yh]at hp;obtain rfl:=yb hp;obtain rfl:=bZ.1 hge;have hb:b<ids.length:=(yd.1 W).1;rw[hsub b (by omega)]at K;have:=lB (f:=λ_ _=>none) W K;simp only[n6,hgen]at this;simp only;rw[this];exact hL
   ·cases hp
  ·rename_i hno;cases hlt:(Nat.beq g 0&&Nat.blt b sub.length)with
   |false=>rw[hlt]at hp;simp at hp
   |true=>
    rw[hlt]at hp;simp only[yh]at hp;obtain rfl:=yb hp;simp only[yc]at hlt;obtain rfl:=bZ.1 hlt.1;have hb:b<sub.length:=by have:=hlt.2;simp[Nat.blt]at this;omega
    have hge:=List.getElem?_eq_none_iff.1 hno;have:=lN (i:=b-ids.length) (by omega);simp only;rw[this,show ids.length+(b-ids.length)=b by omega];exact hL
 have hp4: ∀{l:Bool},l=gV lent->∀β B o,(β=true->l=true)->G4.prot β B o->G'.prot β B o:=by
  intro l hl β B o hβ h;show pr β B o;simp only[pr];cases β with
  |true=>simp only[if_true];rw[if_pos (by rw[<-hl];exact hβ rfl)];exact h
  |false=>simp only[yt2,if_false];exact h
 have hren3:F2 G3 G' (dF mem sub ids):=λb g p L hp hL=>hren b g p L hp (by rw[h4l];exact hL);have hrowlent: ∀{j:Nat} {y:bV},q[j]?=some (some y)->vG y.row=true->gV lent=true:=by
  intro j y K hl;rcases hlent with h|⟨_,h⟩
  ·exact h
  ·rw[q5 K hl]at h;cases h
 have hin3: ∀{j:Nat} {y:bV} {C i c X:Nat},q[j]?=some (some y)->fP G3 j y C->c6 w' C y.row i c X->G.mine X/\∀β o,¬pr β X o:=by
  intro j y C i c X K hC N;obtain⟨k1,_,_,k4⟩:=hM3.inn K hC N;refine⟨B7.mine hM (hcome X k1),fun β o hp=>?_⟩;obtain⟨β',hp'⟩:=hpr4 β X o hp;rcases h4n β' X o hp' with hp'|⟨b,x,L,hb,Z,hL,hB⟩
  ·exact k4 β' o hp'
  ·exact hM3.inA j b y x C i c X K hC N Z ⟨L,hL,hB⟩
 -- a box of the callee's, at its new number
 have hbox: ∀{j a g:Nat} {y:bV},j<sub.length->q[j]?=some (some y)->G'.loc a g=G3.loc j y.gen->Wz G' w' a {gen:=g,frz:=y.frz,row:=y.row.ren (dF mem sub ids)}:=by
  intro j a g y hjs K Y;have hby:=hM3.box j y K;obtain⟨o,a0,hl,ha0,hm⟩:=hby.loc;refine⟨by simp only[pP];exact hby.e,o,a0,by simp only[pP,lW];rw[Y];exact hl,by simp only[wC];exact ha0,?_⟩;cases o with
  |none=>simp only[lW,dX];exact hm
  |some B=>
   obtain⟨h1,h2,h3,h4,h5⟩:=hm;have hmB:G.mine B:=B7.mine hM (hcome B h1);refine⟨hmB,h2,h3,h4.ren (l:=gV lent) hren3 (fun β B o hβ h=>hp4 rfl β B o hβ (h4p β B o h)) (hrowlent K) (λi c X N=>hin3 K ⟨_,hl,rfl⟩ N),λhf β o hp=>?_⟩;obtain⟨β',hp'⟩:=hpr4 β B o hp;rcases h4n β' B o hp' with hp'|⟨b,x,L,hb,Z,hL,hB⟩
   ·exact h5 hf β' o hp'
   ·have:=hM3.apart j b y x _ L B K Z hl hL rfl hB;omega
 -- entries
 have hent: ∀(a:Nat) (z:bV),(aR mem (bR (dF mem sub ids) mem ids q)++fZ (dF mem sub ids) (sub.drop ids.length))[a]?=some (some z)->
   (a<mem.length/\a∉ids/\mem[a]?=some (some z))\/
   (∃j y,j<sub.length/\q[j]?=some (some y)/\z={gen:=z.gen,frz:=y.frz,row:=y.row.ren (dF mem sub ids)}/\G'.loc a z.gen=G3.loc j y.gen/\((∃x,ids[j]?=some a/\mem[a]?=some (some x)/\x.gen≤z.gen)\/(∃i,j=ids.length+i/\a=mem.length+i/\z.gen=0))):=by
  intro a z H;by_cases W:a<mem.length
  ·rw[yq (by rw[hlen];exact W)]at H;by_cases N: ∃(j:Nat) (y:bV),ids[j]?=some a/\q[j]?=some (some y)
   ·obtain⟨j,y,hj,K⟩:=N;rw[zA hn hj K W]at H;obtain rfl:n6 (dF mem sub ids) mem a y=z:=by simpa using H
    obtain⟨x,Z,hk,_⟩:=hq hj K;have hjl:=(yd.1 hj).1;refine .inr ⟨j,y,by omega,K,rfl,lB hj K,.inl ⟨x,hj,Z,?_⟩⟩;rw[hbgen Z];omega
   ·rw[qM (λj y h1 h2=>N ⟨j,y,h1,h2⟩)]at H;refine .inl ⟨W,λhm=>?_,H⟩;obtain⟨j,hj,rfl⟩:=yb2 hm;obtain⟨y,K⟩:=hq2 (ye hj) H;exact N ⟨j,y,ye hj,K⟩
  ·rw[yy (by rw[hlen];omega),hlen,o8,yg1]at H;obtain⟨o,ho,H⟩:=yf.1 H;cases o with
   |none=>simp at H
   |some y=>
    simp only[yl,Option.some.injEq]at H;have hjl:=(yd.1 ho).1;rw[hsub _ hjl]at ho;have hg0:=hgens _ y (.inl (by omega)) ho;refine .inr ⟨_,y,hjl,ho,by rw[<-H],?_,.inr ⟨a-mem.length,rfl,by omega,by rw[<-H]⟩⟩;have:=lN hjl;rw[show mem.length+(a-mem.length)=a by omega]at this;rw[<-H,hg0];exact this
 have hblk3: ∀{a j:Nat} {z y:bV} {B:Nat},G'.loc a z.gen=G3.loc j y.gen->fP G' a z B->fP G3 j y B:=by
  rintro a j z y B Y ⟨L,hl,hB⟩
  rw[Y]at hl;exact⟨L,hl,hB⟩
 have hblkO: ∀{a:Nat} {z:bV} {B:Nat},a<mem.length->a∉ids->fP G' a z B->fP G a z B:=by
  rintro a z B W J ⟨L,hl,hB⟩
  rw[lO W J]at hl;exact⟨L,hl,hB⟩
 have hc3: ∀{j:Nat} {y:bV} {C B:Nat},q[j]?=some (some y)->fP G3 j y C->(B=C\/∃i c,c6 w' C y.row i c B)->B7 G w mem ids B:=by
  rintro j y C B K hC (rfl|⟨i,c,N⟩)
  ·let ⟨_,_,_,h,_⟩:=hM3.blk K hC;exact hcome _ h
  ·exact hcome _ (hM3.inn K hC N).1
 have U: ∀{a:Nat} {z:bV} {C B:Nat},a∉ids->mem[a]?=some (some z)->fP G a z C->(B=C\/∃i c,c6 w C z.row i c B)->¬B7 G w mem ids B:=by
  intro a z C B W H hC hB hc;rcases hc with hc|⟨b,x,D,hb,Z,hD,Wr⟩
  ·rcases hB with rfl|⟨i,c,N⟩
   ·have:=hM.blkSz H hC;omega
   ·have:=(hM.inn H hC N).2.1;omega
  ·have hne:b≠a:=by rintro rfl;exact W hb
   have hO:lR G w mem a B:=⟨b,x,D,hne,Z,hD,Wr⟩
   rcases hB with rfl|⟨i,c,N⟩
   ·exact hM.other_ne H hC hO rfl
   ·exact hM.other_inn H hC N hO
 have hsame: ∀{a:Nat} {z:bV} {C B:Nat},a∉ids->mem[a]?=some (some z)->fP G a z C->(B=C\/∃i c,c6 w C z.row i c B)->w'.heap[B]?=w.heap[B]?:=by
  intro a z C B W H hC hB;have hlt:B<w.heap.size:=by
   rcases hB with rfl|⟨i,c,N⟩
   ·exact hM.blkSz H hC
   ·exact(hM.inn H hC N).2.1
  exact hev.away B hlt (U W H hC hB)
 have hinO: ∀{a:Nat} {z:bV} {C i c X:Nat},a∉ids->mem[a]?=some (some z)->fP G a z C->c6 w' C z.row i c X->c6 w C z.row i c X:=λW H hC N=>N.same λo=>eE (hsame W H hC (.inl rfl)) o;refine⟨G',hv.ren (l:=gV lent) hren (hp4 rfl) (λhl=>?_),hGle,hEv,?_⟩
 ·rcases hlent with h|⟨h,_⟩
  ·exact h
  ·rw[h]at hl;cases hl
 refine⟨λa z H=>?_,λa g H=>?_,λa z g H hlt=>?_,λa a' z z' L L' B H V hl hl' hk hk'=>?_,λa a' z z' B i c X H hk N V hk'=>?_,λa a' z z' B C i c i' c' X H hk N V hk' hi'=>?_,λB hB=>hM.own B (yv2 hEv.size hB),λB o h=>?_,fun β B o h=>?_,hM.glob.mono (hGle.prot true) (hEv.prot true)⟩
 ·rcases hent a z H with ⟨W,J,H⟩|⟨j,y,hjs,K,hze,Y,_⟩
  ·have hbz:=hM.box a z H;obtain⟨o,a0,hl,ha0,hm⟩:=hbz.loc;refine⟨hbz.e,o,a0,by rw[lO W J];exact hl,ha0,?_⟩;cases o with
   |none=>exact hm
   |some B=>
    obtain⟨h1,h2,h3,h4,h5⟩:=hm;have hB:fP G a z B:=⟨_,hl,rfl⟩
    have hnc:=U J H hB (.inl rfl);have hh:w'.heap[B]?=w.heap[B]?:=hsame J H hB (.inl rfl);refine⟨h1,yn2 h2 hEv.size,h3.of_heap hh,h4.mono hGle hEv (λo _=>eE hh o) (λi c X N=>⟨.of (hsame J H hB (.inr ⟨i,c,N⟩)),fun β o hp=>?_⟩),λhf β o hp=>?_⟩
    ·rcases hprle β X o hp with ⟨β',hp⟩|hp
     ·exact(hM.inn H hB N).2.2.2 β' o hp
     ·exact U J H hB (.inr ⟨i,c,N⟩) hp
    ·rcases hprle β B o hp with ⟨β',hp⟩|hp
     ·exact h5 hf β' o hp
     ·exact hnc hp
  ·rw[hze];exact hbox hjs K Y
 ·by_cases W:a<mem.length
  ·by_cases J:a∈ids
   ·obtain⟨j,hj,rfl⟩:=yb2 J;have hjj:=ye hj;cases K:q[j]? with
    |none=>
     have:=hql;have:=(List.getElem?_eq_none_iff.1 K);omega
    |some o=>
     cases o with
     |some y=>
      refine absurd ?_ (H (n6 (dF mem sub ids) mem ids[j] y));rw[yq (by rw[hlen];exact W)];exact zA hn hjj K W
     |none=>
      show jF G G3 mem q ids sub.length _ g=none;unfold jF;rw[if_pos W,vY hn hjj];simp only[ye1,K];refine hM.unset _ g (λx Z=>?_);obtain⟨y,hy'⟩:=hq2 hjj Z;rw[K]at hy';cases hy'
   ·rw[lO W J];refine hM.unset a g (λx Z=>H x ?_);rw[yq (by rw[hlen];exact W),qM (λj y h1 _=>J (yj h1))];exact Z
  ·show jF G G3 mem q ids sub.length a g=none;unfold jF;rw[if_neg W];split
   ·rename_i hc;refine hM3.unset _ 0 (λx Z=>?_);refine H {gen:=0,frz:=x.frz,row:=x.row.ren (dF mem sub ids)} ?_;rw[yy (by rw[hlen];omega),hlen,o8,yg1,hsub _ hc.2,Z];rfl
   ·rfl
 ·rcases hent a z H with ⟨W,J,H⟩|⟨j,y,hjs,K,hze,Y,⟨x,hj,Z,hge⟩|⟨i,rfl,rfl,h0⟩⟩
  ·rw[lO W J];exact hM.gens a z g H hlt
  ·have W:a<mem.length:=(yd.1 Z).1;have M:=lB (f:=λ_ _=>none) hj K;show jF G G3 mem q ids sub.length a g=none;unfold jF;rw[if_pos W,vY hn hj];simp only[ye1,K];have hzg:z.gen=(n6 (λ_ _=>none) mem a y).gen:=by
    have hz2:=H;rw[yq (by rw[hlen];exact W),zA hn hj K W]at hz2;obtain rfl:n6 (dF mem sub ids) mem a y=z:=by simpa using hz2
    rfl
   rw[if_neg (by omega)];exact hM.gens a x g Z (by omega)
  ·show jF G G3 mem q ids sub.length _ g=none;unfold jF;rw[if_neg (by omega),if_neg (by omega)]
 ·rcases hent a z H with ⟨W,J,H⟩|⟨j,y,hjs,K,hze,Y,hw⟩
  ·have hB:=hblkO W J ⟨L,hl,hk⟩;rw[lO W J]at hl;rcases hent a' z' V with ⟨ha',O,V⟩|⟨j',y',hjs',hy',hze',M,hw'⟩
   ·rw[lO ha' O]at hl';exact hM.apart a a' z z' L L' B H V hl hl' hk hk'
   ·exact absurd (hc3 hy' (hblk3 M ⟨L',hl',hk'⟩) (.inl rfl)) (U J H hB (.inl rfl))
  ·have hB:=hblk3 Y ⟨L,hl,hk⟩;rw[Y]at hl;rcases hent a' z' V with ⟨ha',O,V⟩|⟨j',y',hjs',hy',hze',M,hw'⟩
   ·have hB':=hblkO ha' O ⟨L',hl',hk'⟩;exact absurd (hc3 K hB (.inl rfl)) (U O V hB' (.inl rfl))
   ·rw[M]at hl';have hjj:=hM3.apart j j' y y' L L' B K hy' hl hl' hk hk';subst hjj;rcases hw with ⟨x,hj,_⟩|⟨i,N,rfl,_⟩
    ·rcases hw' with ⟨x',hj',_⟩|⟨i',hi',rfl,_⟩
     ·rw[hj]at hj';exact yb hj'
     ·have:=(yd.1 hj).1;omega
    ·rcases hw' with ⟨x',hj',_⟩|⟨i',hi',rfl,_⟩
     ·have:=(yd.1 hj').1;omega
     ·omega
 ·rcases hent a z H with ⟨W,J,H⟩|⟨j,y,hjs,K,hze,Y,hw⟩
  ·have hB:=hblkO W J hk;have N:=hinO J H hB N;rcases hent a' z' V with ⟨ha',O,V⟩|⟨j',y',hjs',hy',hze',M,hw'⟩
   ·exact hM.inA a a' z z' B i c X H hB N V (hblkO ha' O hk')
   ·exact U J H hB (.inr ⟨i,c,N⟩) (hc3 hy' (hblk3 M hk') (.inl rfl))
  ·have hB:=hblk3 Y hk;rw[hze]at N;have N:=c6.ren.1 N;rcases hent a' z' V with ⟨ha',O,V⟩|⟨j',y',hjs',hy',hze',M,hw'⟩
   ·exact U O V (hblkO ha' O hk') (.inl rfl) (hc3 K hB (.inr ⟨i,c,N⟩))
   ·exact hM3.inA j j' y y' B i c X K hB N hy' (hblk3 M hk')
 ·rcases hent a z H with ⟨W,J,H⟩|⟨j,y,hjs,K,hze,Y,hw⟩
  ·have hB:=hblkO W J hk;have N:=hinO J H hB N;rcases hent a' z' V with ⟨ha',O,V⟩|⟨j',y',hjs',hy',hze',M,hw'⟩
   ·have hB':=hblkO ha' O hk';exact hM.inB a a' z z' B C i c i' c' X H hB N V hB' (hinO O V hB' hi')
   ·rw[hze']at hi';exact absurd (hc3 hy' (hblk3 M hk') (.inr ⟨i',c',c6.ren.1 hi'⟩)) (U J H hB (.inr ⟨i,c,N⟩))
  ·have hB:=hblk3 Y hk;rw[hze]at N;have N:=c6.ren.1 N;rcases hent a' z' V with ⟨ha',O,V⟩|⟨j',y',hjs',hy',hze',M,hw'⟩
   ·have hB':=hblkO ha' O hk';exact absurd (hc3 K hB (.inr ⟨i,c,N⟩)) (U O V hB' (.inr ⟨i',c',hinO O V hB' hi'⟩))
   ·rw[hze']at hi';obtain⟨hjj,h2⟩:=hM3.inB j j' y y' B C i c i' c' X K hB N hy' (hblk3 M hk') (c6.ren.1 hi');subst hjj;refine⟨?_,h2⟩;rcases hw with ⟨x,hj,_⟩|⟨i,N,rfl,_⟩
    ·rcases hw' with ⟨x',hj',_⟩|⟨i',hi',rfl,_⟩
     ·rw[hj]at hj';exact yb hj'
     ·have:=(yd.1 hj).1;omega
    ·rcases hw' with ⟨x',hj',_⟩|⟨i',hi',rfl,_⟩
     ·have:=(yd.1 hj').1;omega
     ·omega
 ·show pr true B o;have h':pr false B o:=h;simp only[pr,yt2,if_false]at h';simp only[pr,if_true];split
  ·exact h4lab B o h'
  ·exact .inr h'
 ·obtain⟨β',hp'⟩:=hpr4 β B o h;rcases h4n β' B o hp' with hp'|⟨b,x,L,hb,Z,hL,hB⟩
  ·exact hM3.away β' B o hp'
  ·exact hM3.blk_lt Z hL hB
end
end Go.Ab
end
section
namespace Go.Ab
variable [cS]
section
variable {P:Program}
theorem rZ.append{G:Gh}{w:World}{a b:List AV}{u v:Array Value}(h:rZ G w a u)(K:rZ G w b v):rZ G w (a++b) (u++v):=by
 refine⟨by simp[h.1,K.1],λj y H=>?_⟩;by_cases J:j<a.length
 ·rw[yq J]at H;have:=h.2 j y H;rw[yo,ym3 (by rw[<-h.1];exact J),<-yo];exact this
 ·rw[yy (by omega)]at H;have:=K.2 _ y H;rw[yo,Array.getElem?_append_right (by rw[<-h.1];omega),<-h.1,<-yo];exact this
theorem rZ.renAll{G H:Gh}{w:World}{f:mS}{as:List AV}{vs:Array Value}(h:rZ G w as vs)(hr:F2 G H f)(M: ∀β B o,G.prot β B o->H.prot β B o):rZ H w (AV.renAll f as) vs:=by
 refine⟨by rw[gB];simpa using h.1,λj y J=>?_⟩;obtain⟨x,K,rfl⟩:=wD J;exact(h.2 j x K).ren (l:=true) hr (fun β B o _=>M β B o) (λ_=>rfl)
theorem OA{C:cC}(hC:mI P C){G:Gh}{w:World}{mem:aO}(hM:aJ G w mem){raw keep:Bool}{g:FuncId}{ts:List TypeId}{fi args ca:List AV}{out:dY}{fv av cv:Array Value}
  (h:BE P C raw keep g ts fi args ca mem=some out) (hf:rZ G w fi fv) (ha:rZ G w args av) (hc:rZ G w ca cv):Pr P G w mem g (fv++av++cv) out:=by
 unfold BE at h;rw[bind_some]at h;obtain⟨J,hla,h⟩:=h;simp only at h;generalize hids:i9 mem (d8 mem (AV.refsAll (fi++J.1++ca)).length) (AV.refsAll (fi++J.1++ca)) []=ids at h;rw[aA]at h;obtain⟨hg,h⟩:=h;simp only[yc]at hg;obtain⟨hn,hd⟩:=hg;rw[bind_some]at h;obtain⟨q,hq,h⟩:=h;rw[aA]at h;obtain⟨hg,h⟩:=h;simp only[yc,yh2,yx,Bool.or_eq_false_iff]at hg;obtain⟨N,H⟩:=hg;have N:=dA.1 N;have hgl:=dH.lend G (bA G w mem J.2) hM.inBoxes;have V:=Oa (us:=av.toList) (S:=J.2) hM hla ⟨by simpa using ha.1,λj y hy=>by rw[fA];exact ha.2 j y hy⟩ (λb h=>h);have hall:rZ (G.lend (bA G w mem J.2)) w (fi++J.1++ca) (fv++av++cv):=
  ((hf.mono hgl (Ev.refl G w)).append ⟨by simpa using V.1,λj y hy=>by rw[<-fA];exact V.2 j y hy⟩).append (hc.mono hgl (Ev.refl G w))
 have hM1:=UY (lent:=J.2) hM hn hd;have Z:rZ (Rj G w mem ids J.2) w (AV.renAll (gR 0 true mem ids) (fi++J.1++ca)) (fv++av++cv):=hall.renAll (I5 (G:=G.lend (bA G w mem J.2)) rfl) (λ_ _ _ h=>h);obtain⟨hen,hcl⟩:=hC g _ _ q hq _ w _ hM1 (λj x hx=>by obtain⟨b,y,_,_,rfl⟩:=eI hx;simp[iC,Cy]) Z;refine⟨hen,Calls.mono hcl λe w' he=>?_⟩;obtain⟨G3,qv,rfl,hR⟩:=he;obtain⟨qr,qm⟩:=q;simp only at h H N hR;have hR':=hR;obtain⟨O,hev,hmine3,hprot3,hnew3,U,hgens,hkept,hnones⟩:=hR';simp only at O U;have hl3: ∀B o,G3.prot false B o->G3.prot true B o:=U.lab;cases hcd:(iH ids.length (bif raw then qr else oV ids.length qm qr).refs&&iH ids.length (cV (List.take ids.length qm)))with
 |true=>
  rw[hcd]at h;simp only[yh]at h;obtain rfl:=yb h;have htl:(qm.take ids.length).length=ids.length:=by simp;omega
  have key: ∃r,r=(bif raw then qr else oV ids.length qm qr)/\VR (G3.frz (oW G3 qm ids.length)) w' r qv/\(qr.lent=false/\kC qm=false->r.lent=false):=by
   cases raw with
   |true=>exact⟨_,rfl,O.mono (dH.frz G3 _ (by rintro B o ⟨b,x,L,_,hx,hl,hB⟩;exact U.mine hx hl hB)) (Ev.refl G3 w'),λh=>h.1⟩
   |false=>exact⟨_,rfl,Mg U O,λh=>Ni h.2 h.1⟩
  obtain⟨r,hr,hvr,hrl⟩:=key;obtain⟨G',Y,K,W,M⟩:=Oi (sub:=qm.take ids.length) (lent:=J.2) (r:=r) (cv:=qv) hM hn hd hR (H.imp id (λh=>⟨hrl h,h.2⟩)) hvr rfl rfl (λ_ _ _ h=> .inl h)
   (fun β B o h=>by rw[htl];exact h) (λB o h=>h.imp (hl3 B o) id) (λj hj=>by rw[htl]at hj;rw[yy1,if_pos hj]) (by omega) (by omega)
  refine⟨G',qv,rfl,by rw[<-hr];exact Y,K,W,?_⟩;have hnil:(qm.take ids.length).drop ids.length= []:=List.drop_eq_nil_of_le (by omega);rw[hnil]at M;exact M
 |false=>
  rw[hcd]at h;simp only[yg]at h;obtain rfl:=yb h;obtain⟨G',Y,K,W,M⟩:=Oi (sub:=qm) (lent:=J.2) (r:=qr) (cv:=qv) hM hn hd hR H O rfl rfl (λ_ _ _ h=>h)
   (fun β B o h=> .inl h) hl3 (λj hj=>rfl) N (yb1 _)
  exact⟨G',qv,rfl,Y,K,W,M⟩
end
end Go.Ab
end
section
namespace Go.Ab
variable [cS]
structure SR (G:Gh) (w:World) (st:St) (a:Act):Prop where
 memr:aJ G w st.mem
 len:st.tmps.length=a.tmps.size
 tmps: ∀(j:Nat) (x:AV),st.tmps[j]?=some x->iP x=true\/VR G w x (a.tmps.getD j undef)
 defers:a.defers= []
structure Hb (G0:Gh) (w0:World) (old:List (Option Bool)) (G:Gh) (w:World):Prop where
 ev:Ev G0 w0 w
 mine:G.mine=G0.mine
 prot: ∀β B o,G0.prot β B o->G.prot β B o
 new: ∀β B o,G.prot β B o->G0.prot β B o\/G0.mine B
 keep: ∀(j:Nat) (k:Bool),old[j]?=some (some k)->∀L,G0.loc j 0=some L->G.loc j 0=some L
theorem Hb.refl(G:Gh)(w:World)(old:List (Option Bool)):Hb G w old G w:=⟨Ev.refl G w,rfl,λ_ _ _ h=>h,λ_ _ _ h=> .inl h,λ_ _ _ _ h=>h⟩
theorem Hb.step{G0:Gh}{w0:World}{old:List (Option Bool)}{G M:Gh}{w N:World}(h:Hb G0 w0 old G w)(J:dH G M)(H:Ev G w N):Hb G0 w0 old M N where
 ev:=
  ⟨yv2 h.ev.size H.size,H.out.trans h.ev.out,H.os.trans h.ev.os,λB K hm=>(H.away B (yn2 K h.ev.size) (by rw[h.mine];exact hm)).trans (h.ev.away B K hm),
   λB o x=>H.some B o (h.ev.some B o x),fun β B o x=>(H.prot β B o (h.prot _ _ _ x)).trans (h.ev.prot β B o x),λB o x=>(H.fz B o (h.ev.some B o x)).trans (h.ev.fz B o x),H.tape.trans h.ev.tape⟩
 mine:=J.mine.trans h.mine
 prot β B o x:=J.prot _ _ _ (h.prot _ _ _ x)
 new β B o x:=(J.new _ _ _ x).elim (h.new _ _ _) (λy=> .inr (by rw[<-h.mine];exact y))
 keep j k hj L hL:=J.loc _ _ _ (h.keep j k hj L hL)
theorem RC{tmps:List AV}{t:Nat}{v:AV}(h:He tmps t=some v):tmps[t]?=some v/\iP v=false:=by
 unfold He at h;rw[bH]at h;rw[bind_some]at h;obtain⟨u,J,h⟩:=h;cases H:iP u with
 |true=>rw[H]at h;simp at h
 |false=>rw[H]at h;simp only[yg]at h;obtain rfl:=yb h;exact⟨J,H⟩
section
variable {P:Program}
theorem SR.get{G:Gh}{w:World}{st:St}{a:Act}(h:SR G w st a){t:Nat}{v:AV}(ht:He st.tmps t=some v):VR G w v (a.tmps.getD t undef):=by
 obtain⟨K,J⟩:=RC ht;rcases h.tmps t v K with H|H
 ·rw[J]at H;cases H
 ·exact H
theorem Qp{G:Gh}{w:World}{mem:aO}(hM:aJ G w mem){g:Nat}{q:Int×Int}(h:cS.tab g=some q):VR G w (.el true (.agg [.lit (.int .i64 q.1),.lit (.int .i64 q.2)]) 0) (.pointer (some ⟨g,0,none⟩)):=by
 obtain⟨⟨N,K⟩,J,M⟩:=hM.glob g q h;refine .el true _ 0 g 0 (λj=>if j=0 then .int .i64 q.1 else .int .i64 q.2) (λj y H=>?_) (λj y H=>?_)
 ·match j,H with
  |0,H=>exact⟨N,K⟩
  |1,H=>exact⟨J,M⟩
 ·match j,H with
  |0,H=>obtain rfl:=yb H;exact .lit _ rfl
  |1,H=>obtain rfl:=yb H;exact .lit _ rfl
theorem SR.eval{G:Gh}{w:World}{st:St}{a:Act}(h:SR G w st a):TX G w (cN st.tmps) a:=by
 intro x v H;cases x with
 |tmp t=>exact h.get H
 |const c=>exact oG H
 |func f=>
  obtain rfl:=yb H;exact .fn (.func f) [] [] #[] #[] rfl rfl (λj y J=>by simp at J) (λj y J=>by simp at J)
 |global g=>
  simp only[cN]at H;obtain⟨q,K,rfl⟩:=yf.1 H;exact Qp h.memr K
theorem Oh(a:Act)(dst:Option Tmp)(v:Value):(a.put dst v).defers=a.defers/\(a.put dst v).tmps.size=a.tmps.size:=by
 cases dst<;>simp[Act.put]
theorem SR.put{G M:Gh}{w K:World}{st:St}{a:Act}{dst:Option Tmp}{v:AV}{cv:Value}{mem':aO}(h:SR G w st a)(O:dH G M)(U:Ev G w K)(V:VR M K v cv)(hM:aJ M K mem'):
  SR M K {tmps:=pO st.tmps dst v,mem:=mem'} (a.put dst cv):=by
 refine⟨hM,?_,λj x H=>?_,by rw[(Oh a dst cv).1];exact h.defers⟩
 ·rw[(Oh a dst cv).2,<-h.len];cases dst<;>simp[pO,eS]
 ·cases dst with
  |none=>exact(h.tmps j x H).imp id (λh=>h.mono O U)
  |some d=>
   simp only[pO,eS]at H;simp only[Act.put];by_cases N:j=d
   ·subst N;have J:j<st.tmps.length:=by have:=(yd.1 H).1;simpa using this
    rw[yt J]at H;obtain rfl:=yb H;right;rw[yo,Array.getElem?_setIfInBounds_self_of_lt (by rw[<-h.len];exact J)];exact V
   ·rw[yp (λe=>N e.symm)]at H;refine(h.tmps j x H).imp id (λh=>?_);rw[yo,Array.getElem?_setIfInBounds_ne (λe=>N e.symm),<-yo];exact h.mono O U
theorem aJ.congr{G:Gh}{w:World}{mem mem':aO}(hM:aJ G w mem)(h: ∀(b:Nat) (x:bV),mem'[b]?=some (some x)↔mem[b]?=some (some x)):aJ G w mem':=
 ⟨λb x J=>hM.box b x ((h b x).1 J),λb g J=>hM.unset b g (λx H=>J x ((h b x).2 H)),λb x g J=>hM.gens b x g ((h b x).1 J),
  λb K x x' L U B J H=>hM.apart b K x x' L U B ((h b x).1 J) ((h K x').1 H),λb K x x' B i c B' J k M H=>hM.inA b K x x' B i c B' ((h b x).1 J) k M ((h K x').1 H),
  λb K x x' B C i c O N B' J k M H=>hM.inB b K x x' B C i c O N B' ((h b x).1 J) k M ((h K x').1 H),hM.own,hM.lab,hM.away,hM.glob⟩
theorem NH: ∀{m:aO} {b:Nat} {x:bV},(trim m)[b]?=some (some x)↔m[b]?=some (some x)
 | [],b,x=>by simp[trim]
 |y::m,b,x=>by
  have J:=λb=>NH (m:=m) (b:=b) (x:=x);simp only[trim];split
  ·rename_i hn;rw[hn]at J;have H: ∀b:Nat,m[b]?≠some (some x):=λb K=>by have:=(J b).2 K;simp at this
   cases y with
   |none=>
    simp only[Q1,yh];cases b with
    |zero=>simp
    |succ b=>simp[H b]
   |some y=>
    simp only[Q1,yg];cases b with
    |zero=>simp
    |succ b=>simp[H b]
  ·rename_i z hz;cases b with
   |zero=>simp
   |succ b=>simp only[yo1];exact J b
theorem SH{mem:aO}{rs:Nat}:Bw mem rs=true↔mem[rs]?=some none:=by
 unfold Bw;split
 ·rename_i h;simp[h]
 ·rename_i h;constructor
  ·intro H;cases H
  ·intro H;exact absurd H h
inductive yX (P:Program) (C:cC) (an:o5) (tk:Bool) (rid:Nat) (ops:Array Oper) (o:Oper) (i rs:Nat) (st:St):St->Option Tr->Prop
 |run (out:dY) (st1:St) (hst:st1.mem=st.mem/\∀t:Nat,st1.tmps[t]?=st.tmps[t]?) (hres:eR o.op=true->Bw st.mem rs=true) (h:Kf P C (bP rid i an.own) tk (bP rid i an.boxed) (bP rid i an.raw) (bP rid i an.vars) o (cN st1.tmps) st1.mem rs=some out)
   (hg: ∀j want,o.guard=some (j,want)->∃d,(ops[j]?).bind (·.dst)=some d/\st.tmps[d]?=some (.lit (.bool want))):
   yX P C an tk rid ops o i rs st {tmps:=pO st1.tmps o.dst out.v,mem:=out.apply st1.mem} (some (out.tr (eR o.op) rs i o.op st1.mem))
 |skip (st1:St) (hst:st1.mem=st.mem/\∀t:Nat,st1.tmps[t]?=st.tmps[t]?) (j:Nat) (want:Bool) (d:Nat) (hg:o.guard=some (j,want)) (hd:(ops[j]?).bind (·.dst)=some d)
   (h:st.tmps[d]?=some (.lit (.bool (!want)))\/∃x,st.tmps[d]?=some (.lit (.tuple x))):yX P C an tk rid ops o i rs st {tmps:=pO st1.tmps o.dst (.lit undef),mem:=st1.mem} none
theorem TT{tmps:List AV}{d:Nat}{v:AV}(h:tmps[d]?=some v): ∀t:Nat,(tmps.set d v)[t]?=tmps[t]?:=by
 intro t;by_cases e:t=d
 ·subst e;rw[yt (yd.1 h).1,h]
 ·rw[yp (λx=>e x.symm)]
variable {R:Type}
theorem Og{h:Option Int}{v:AV}{k:AV->Option R}{r:R}(H:Cw h v k=some r):k v=some r:=by
 unfold Cw at H;split at H
 ·exact H
 ·split at H
  ·rw[aA]at H;rw[decide_eq_true_eq]at H;rw[H.1];exact H.2
  ·rename_i x _ b;cases J:decide (x=0)with
   |true=>
    rw[J]at H;simp only[yh]at H;rw[aA]at H;cases b with
    |false=>exact H.2
    |true=>simp at H
   |false=>
    rw[J]at H;simp only[yg]at H;rw[aA]at H;cases b with
    |true=>exact H.2
    |false=>simp at H
  ·exact H
theorem Kk{C:cC}{an:o5}{tk:Bool}{rid:Nat}{ops:Array Oper}{o:Oper}{rest:List Oper}{i rs:Nat}{st:St}{tr:List Tr}{k:St->List Tr->Option R}{r:R}
  (h:yM P C an tk rid (ops.toList.map (·.dst)) (o::rest) i rs st tr k=some r):
  ∃K t,yX P C an tk rid ops o i rs st K t/\yM P C an tk rid (ops.toList.map (·.dst)) rest (i+1) (bif eR o.op then rs+1 else rs) K (t.toList++tr) k=some r:=by
 simp only[yM,bH,eS]at h
 have hds: ∀{j:Nat} {d:Nat},(ops.toList.map (·.dst))[j]?=some (some d)->(ops[j]?).bind (·.dst)=some d:=by
  intro j d hj;rw[yh1]at hj;obtain⟨x,hx,hd⟩:=yf.1 hj;rw[yx1]at hx;rw[hx];exact hd
 have V: ∀(J:St),(J.mem=st.mem/\∀t:Nat,J.tmps[t]?=st.tmps[t]?)->(∀j H,o.guard=some (j,H)->∃d,(ops[j]?).bind (·.dst)=some d/\st.tmps[d]?=some (.lit (.bool H)))->
   guardB (bif eR o.op then Bw J.mem rs else true) ((Kf P C (bP rid i an.own) tk (bP rid i an.boxed) (bP rid i an.raw) (bP rid i an.vars) o (cN J.tmps) J.mem rs).bind λout=>
    Cw (Fh rid i an.hint) out.v λv=>yM P C an tk rid (ops.toList.map (·.dst)) rest (i+1) (bif eR o.op then rs+1 else rs) {tmps:=pO J.tmps o.dst v,mem:=out.apply J.mem} (out.tr (eR o.op) rs i o.op J.mem::tr) k)=some r->
   ∃K t,yX P C an tk rid ops o i rs st K t/\yM P C an tk rid (ops.toList.map (·.dst)) rest (i+1) (bif eR o.op then rs+1 else rs) K (t.toList++tr) k=some r:=by
  intro J W O h;rw[aA]at h;obtain⟨hr,h⟩:=h;rw[bind_some]at h;obtain⟨out,hout,h⟩:=h;have h:=Og h;refine⟨_,_,.run out J W (λhm=>?_) hout O,by simpa using h⟩;rw[hm]at hr;rw[<-W.1];exact hr
 have M: ∀(J:St),(J.mem=st.mem/\∀t:Nat,J.tmps[t]?=st.tmps[t]?)->∀(j:Nat) (H:Bool) (d:Nat),o.guard=some (j,H)->(ops[j]?).bind (·.dst)=some d->(st.tmps[d]?=some (.lit (.bool (!H)))\/∃x,st.tmps[d]?=some (.lit (.tuple x)))->
   yM P C an tk rid (ops.toList.map (·.dst)) rest (i+1) (bif eR o.op then rs+1 else rs) {tmps:=pO J.tmps o.dst (.lit undef),mem:=J.mem} tr k=some r->
   ∃K t,yX P C an tk rid ops o i rs st K t/\yM P C an tk rid (ops.toList.map (·.dst)) rest (i+1) (bif eR o.op then rs+1 else rs) K (t.toList++tr) k=some r:=by
  intro J W j H d O hd hh h;exact⟨_,_,.skip J W j H d O hd hh,by simpa using h⟩
 have N: ∀{d:Nat} {v:AV},st.tmps[d]?=some v->(({st with tmps:=st.tmps.set d v}:St).mem=st.mem/\∀t:Nat,({st with tmps:=st.tmps.set d v}:St).tmps[t]?=st.tmps[t]?):=λh=>⟨rfl,TT h⟩
 split at h
 ·rename_i O;exact V st ⟨rfl,λ_=>rfl⟩ (λj H h=>by rw[O]at h;cases h) h
 ·rename_i j H O;split at h
  ·rename_i d hd;have U:=hds hd;split at h
   ·rename_i b Y;cases b with
    |true=>
     simp only[yh]at h;cases H with
     |true=>simp only[yh,yg]at h;exact V _ (N Y) (λj' Z h'=>by rw[O]at h';obtain⟨rfl,rfl⟩:=Prod.mk.inj (yb h');exact⟨d,U,Y⟩) h
     |false=>simp only[yh,yg]at h;exact M _ (N Y) j false d O U (.inl Y) h
    |false=>
     simp only[yg]at h;cases H with
     |true=>simp only[yh,yg]at h;exact M _ (N Y) j true d O U (.inl Y) h
     |false=>simp only[yh,yg]at h;exact V _ (N Y) (λj' Z h'=>by rw[O]at h';obtain⟨rfl,rfl⟩:=Prod.mk.inj (yb h');exact⟨d,U,Y⟩) h
   ·rename_i x hx;exact M st ⟨rfl,λ_=>rfl⟩ j H d O U (.inr ⟨x,hx⟩) h
   ·simp at h
  ·simp at h
theorem SR.same{G:Gh}{w:World}{st H:St}{a:Act}(h:SR G w st a)(J:H.mem=st.mem/\∀t:Nat,H.tmps[t]?=st.tmps[t]?):SR G w H a:=by
 refine⟨by rw[J.1];exact h.memr,?_,λj x M=>h.tmps j x (by rw[<-J.2];exact M),h.defers⟩;rw[<-h.len];rcases Nat.lt_trichotomy H.tmps.length st.tmps.length with K|N|K
 ·have:=J.2 H.tmps.length;rw[yc1 (yb1 _),ye K]at this;cases this
 ·exact N
 ·have:=J.2 st.tmps.length;rw[yc1 (yb1 _),ye K]at this;cases this
theorem SR.lit{G:Gh}{w:World}{st:St}{a:Act}(h:SR G w st a){d:Nat}{v:Value}(J:st.tmps[d]?=some (.lit v)):a.tmps[d]?=some v:=by
 have K:d<a.tmps.size:=by rw[<-h.len];exact(yd.1 J).1
 rcases h.tmps d _ J with H|H
 ·simp[iP]at H
 ·have:=H.lit_inv;rw[yo,yg2 K]at this;rw[yg2 K];simpa using this
theorem yX.sound{C:cC}(hC:mI P C){an:o5}{tk:Bool}{rid:Nat}{ops:Array Oper}{o:Oper}{i rs:Nat}{st U:St}{t:Option Tr}{G:Gh}{w:World}{a:Act}(hi:ops[i]?=some o)
  (h:yX P C an tk rid ops o i rs st U t) (hS:SR G w st a) (K:Act->World->Prop) (Q:Exit->Act->World->Prop) (hK: ∀G' O a',dH G G'->Ev G w O->SR G' O U a'->K a' O):wpOp P ops Q i K a w:=by
 unfold wpOp;simp only[hi];cases h with
 |run out st1 M N ho hg=>
  have H:=hS.same M;have hw:Region.wanted o (yielded ops a.tmps)=true:=by
   unfold Region.wanted;cases hgo:o.guard with
   |none=>rfl
   |some q=>
    obtain⟨j,J⟩:=q;obtain⟨d,Z,W⟩:=hg j J hgo;have:=hS.lit W;simp[yielded,Z,this]
  rw[if_pos hw];left;exact RM H.memr (λhm=>by rw[M.1];exact SH.1 (N hm)) H.eval (λhc hf ha hcv=>OA hC H.memr hc hf ha hcv) ho K Q
   (λG' O cv hv V Y hM'=>hK G' O _ V Y (H.put V Y hv hM'))
 |skip st1 M j J d hg Z h=>
  have H:=hS.same M;have hw:Region.wanted o (yielded ops a.tmps)=false:=by
   unfold Region.wanted;simp only[hg];rcases h with W|⟨x,W⟩
   ·have:=hS.lit W;cases J<;>simp[yielded,Z,this]
   ·have:=hS.lit W;simp[yielded,Z,this]
  rw[hw];simp only[yt2,if_false];exact hK G w _ (dH.refl G) (Ev.refl G w) (H.put (dH.refl G) (Ev.refl G w) (.lit _ rfl) H.memr)
theorem IF{C:cC}(hC:mI P C){an:o5}{tk:Bool}{rid:Nat}{ops:Array Oper}{k:St->List Tr->Option R}{r:R}{Q:Exit->Act->World->Prop}{G0:Gh}{w0:World}{old:List (Option Bool)}:
  ∀{rest:List Oper} {i rs:Nat} {st:St} {tr:List Tr} {G:Gh} {w:World} {a:Act},ops.toList.drop i=rest->yM P C an tk rid (ops.toList.map (·.dst)) rest i rs st tr k=some r->SR G w st a->Hb G0 w0 old G w->
   (∀H U V J N,k H U=some r->SR V J H N->Hb G0 w0 old V J->Q .normal N J)->wpOps P ops Q (List.range' i rest.length) a w
 | [],i,rs,st,tr,G,w,a,K,h,hS,hI,W=>by
  simp only[yM]at h;exact W st tr G w a h hS hI
 |o::rest,i,rs,st,tr,G,w,a,K,h,hS,hI,W=>by
  obtain⟨H,t,M,h'⟩:=Kk h;have Z:ops[i]?=some o:=by
   have:(ops.toList.drop i)[0]?=some o:=by rw[K];rfl
   rw[yg1,ya2,yx1]at this;exact this
  rw[yw,List.range'_succ,wpOps_cons];refine M.sound hC Z hS _ _ (λV J N Y he O=>?_);exact IF hC (by rw[<-List.drop_drop,K];rfl) h' O (hI.step Y he) W
end
end Go.Ab
end
section
namespace Go.Ab
variable [cS]
theorem z8{p:Nat->Prop}(h: ∃n,p n): ∃n,p n/\∀m,p m->n≤m:=by
 obtain⟨n,hn⟩:=h
 induction n using Nat.strongRecOn with
 |_ n K=>
  by_cases hm: ∃m,m<n/\p m
  ·obtain⟨m,H,hm⟩:=hm;exact K m H hm
  ·exact⟨n,hn,λm J=>Nat.le_of_not_lt λH=>hm ⟨m,H,J⟩⟩
section
variable {P:Program}
theorem ML{c:Code}{Q:Exit->Act->World->Prop}{a:Act}{w:World}(I:Nat->Act->World->Prop){n:Nat}(V:I n a w)
  (H: ∀n a w,I n a w->c.wp P (Exit.then (λN O=> ∃m,m<n/\I m N O) Q) a w):(Code.loop c).wp P Q a w:=by
 refine wp_loop (λa w=> ∃n,I n a w) (λa w=>Classical.epsilon λn=>I n a w/\∀m,I m a w->n≤m) ⟨n,V⟩ λa w hI=>?_;have K:=Classical.epsilon_spec (z8 hI);refine wp_mono (H _ a w K.1) λe N O U=>?_;cases e<;>try exact U
 obtain⟨m,M,hm⟩:=U;have J:=Classical.epsilon_spec (z8 (p:=λn=>I n N O) ⟨m,hm⟩);exact⟨⟨m,hm⟩,Nat.lt_of_le_of_lt (J.2 m hm) M⟩
def Ex.to:Ex->Exit
 | .normal=> .normal
 | .exit id=> .exit id
 | .ret=> .ret
 | .goto l=> .goto l
theorem zB: ∀{live:List Nat} {vs:List AV} {i j:Nat},(b6 live vs i)[j]?=(vs[j]?).map λv=>bif eY (i+j) live then v else .goneV
 |live,[],i,j=>by simp[b6]
 |live,v::r,i,0=>by simp[b6]
 |live,v::r,i,j+1=>by simp only[b6,yo1];rw[zB (vs:=r),show i+1+j=i+(j+1) by omega]
theorem Jd{G0:Gh}{w0:World}{keep:Bool}{old:List (Option Bool)}{live:List Nat}{st M:St}{G:Gh}{w:World}{a:Act}(h:NG keep old live st=some M)(hS:SR G w st a)(hI:Hb G0 w0 old G w):
  ∃U,SR U w M a/\Hb G0 w0 old U w:=by
 unfold NG at h;obtain⟨q,hq,rfl⟩:=yf.1 h;obtain⟨f,U,G2,hr,hm,V,N,hM,K,J,hk,_,_⟩:=GH hS.memr hq;refine⟨G2,⟨hM,?_,λj x Y=>?_,hS.defers⟩,⟨hI.ev,hm.trans hI.mine,fun β B o h=>by rw[V];exact hI.prot β B o h,fun β B o h=>hI.new β B o (by rw[V]at h;exact h),λj k W L hL=>by obtain⟨y,_,_,h⟩:=hk j k W;exact h L (hI.keep j k W L hL)⟩⟩
 ·simp only[hr,gB,ym1];rw[<-hS.len];have: ∀(vs:List AV) i,(b6 live vs i).length=vs.length:=by
   intro vs;induction vs with
   |nil=>intro i;rfl
   |cons v r ih=>intro i;simp[b6,ih]
  exact this _ _
 ·simp only[hr]at Y;obtain⟨y,hy,rfl⟩:=wD Y;have H:=J j y;rw[zB]at hy H;obtain⟨z,Z,rfl⟩:=yf.1 hy;rw[Z]at H;cases O:eY (0+j) live with
  |false=>left;rfl
  |true=>
   simp only[yh];rcases hS.tmps j z Z with h|h
   ·left;unfold iP at h;split at h
    ·rfl
    ·cases h
   ·right;rw[O]at H;exact(H _ rfl h).ren (l:=true) K (fun β B o _ hb=>by rw[V,<-N];exact hb) (λ_=>rfl)
theorem Mr{G:Gh}{w:World}{mem mem':aO}{s:AV}{n c:Nat}(hM:aJ G w mem)(h:HX mem s n c=some mem'): ∃M,dH G M/\aJ M w mem':=by
 unfold HX at h;split at h
 ·rename_i b g;rw[bind_some]at h;obtain⟨N,H,h⟩:=h;split at h
  ·rename_i e xs hs J;obtain⟨r,hr,rfl⟩:=yf.1 h;have K:mem[b]?=some (some N):=by
    unfold boxO? at H;split at H
    ·rename_i x K;cases hc:Nat.beq x.gen g&&x.row.isOwn with
     |true=>rw[hc]at H;obtain rfl:=yb H;exact K
     |false=>rw[hc]at H;cases H
    ·cases H
   have O:0<N.row.len:=by
    rw[J];unfold qZ at hr;rw[bind_some]at hr;obtain⟨p,W,_⟩:=hr;have:=(yd.1 W).1;show 0<xs.length;omega
   obtain⟨o,a0,V,U,hm⟩:=(hM.box b N K).loc;cases o with
   |none=>have:=hm.1;omega
   |some B=>
    obtain⟨M,v,_,_,ht,_⟩:=zS hM K J ⟨_,V,rfl⟩ hr;exact⟨M,ht.gle,ht.memr⟩
  ·cases h
 ·cases h
theorem MA{G:Gh}{w:World}{mem mem':aO}{off:Nat}{p:AV}(hM:aJ G w mem)(h:Eu mem off p=some mem'): ∃G',dH G G'/\aJ G' w mem':=by
 unfold Eu at h;split at h
 ·rename_i b g i c;rw[bind_some]at h;obtain⟨x,hbx,h⟩:=h;obtain⟨V,hge⟩:=box?_some hbx;split at h
  ·rename_i e cs H;split at h
   ·rename_i W Y hc;obtain⟨y,hy,rfl⟩:=yf.1 h;have hb:=hM.box b x V;obtain⟨o,a0,U,N,hm⟩:=hb.loc
    refine⟨_,dH.put (b:=b) (g:=x.gen) (.inr U),hM.upd (x':={gen:=x.gen,frz:=x.frz,row:= .cells e (cs.set (i*e+c+off) (.ms W Y 0 y.row.len))}) (Ev.refl G w) (yd.1 V).1 (.inr U)
     (KW.plain rfl (λ_ _=>rfl) λB hB hO=>hM.other_ne V ⟨_,U,hB⟩ hO rfl) (λg' hg'=>hM.gens b x g' V hg') ?_⟩
    rw[H]at U hm N;refine⟨by have:=hb.e;rw[H]at this;exact this,o,a0,by rw[Gh.put_self,H];simp only[bC.e,bC.len,yg3],N,?_⟩;cases o with
    |none=>exact absurd hm.2 (by simp[bC.isCells])
    |some B=>
     obtain⟨m1,m2,m3,Z,m5⟩:=hm;refine⟨m1,m2,m3,⟨by rw[yg3];exact Z.1,λj z K=>?_⟩,m5⟩;have O:dH G (G.put b x.gen ⟨some B,x.row.e,x.row.len,a0⟩):=dH.put (.inr (by rw[H];exact U));have hzz:(i*e+c+off=j/\z= .ms W Y 0 y.row.len)\/cs[j]?=some z:=by
      by_cases ej:i*e+c+off=j
      ·subst ej;rw[yt (yd.1 hc).1]at K;exact .inl ⟨rfl,(yb K).symm⟩
      ·rw[yp ej]at K;exact .inr K
     rcases hzz with ⟨rfl,rfl⟩|K
     ·obtain⟨v,hv,h1,hr⟩:=Z.2 _ _ hc;refine⟨v,hv,h1,VR.mono O (Ev.refl G w) ?_⟩;rcases hM.at_msw hy hr with ⟨B',a',cap,rfl,M,J,ha',hf,_⟩|⟨rfl,hn,_,a',J⟩
      ·have:=VR.ms (G:=G) (w:=w) W Y 0 y.row.len cap _ B' J rfl M (by simp) (by simpa using hf);simpa using this
      ·rw[hn];exact .msNil W Y _ J rfl
     ·obtain⟨v,hv,h1,hr⟩:=Z.2 _ _ K;exact⟨v,hv,h1,VR.mono O (Ev.refl G w) hr⟩
   ·obtain rfl:=yb h;exact⟨G,dH.refl G,hM⟩
  ·cases h
 ·cases h
theorem C9{w:World}{tmps:List AV}: ∀{l:List (Operand×Nat×Operand×Nat)} {G:Gh} {mem mem':aO},aJ G w mem->Fq tmps l mem=some mem'->∃W,dH G W/\aJ W w mem'
 | [],G,mem,mem',hM,h=>by obtain rfl:=yb h;exact⟨G,dH.refl G,hM⟩
 |q::l,G,mem,mem',hM,h=>by
  simp only[Fq]at h;rw[bind_some]at h;obtain⟨J,H,h⟩:=h;have: ∃O,dH G O/\aJ O w J:=by
   unfold Ot at H;rw[bind_some]at H;obtain⟨p,_,H⟩:=H;cases V:Nat.beq q.2.2.2 999 with
   |true=>rw[V]at H;exact MA hM H
   |false=>
    rw[V,yg]at H;rw[bind_some]at H;obtain⟨s,_,H⟩:=H;rw[bind_some]at H;obtain⟨v,_,H⟩:=H;split at H
    ·rw[aA]at H;exact Mr hM H.2
    ·cases H
  obtain⟨O,M,U⟩:=this;obtain⟨Y,K,N⟩:=C9 U h;exact⟨Y,M.trans K,N⟩
theorem Cj{G0:Gh}{w0:World}{old:List (Option Bool)}{an:o5}{rid:Nat}{st M:St}{G:Gh}{w:World}{a:Act}(h:Bl an rid old st=some M)(hS:SR G w st a)(hI:Hb G0 w0 old G w):
  ∃J,SR J w M a/\Hb G0 w0 old J w:=by
 unfold Bl at h;split at h
 ·obtain rfl:=yb h;exact⟨G,hS,hI⟩
 ·rename_i q hq;rw[bind_some]at h;obtain⟨mem1,N,h⟩:=h;obtain⟨mem2,U,rfl⟩:=yf.1 h;obtain⟨J,hG⟩:=Gp hS.memr N;obtain⟨G2,K,V⟩:=C9 hG.memr U
  have W:Hb G0 w0 old J w:=⟨hI.ev,hG.mine.trans hI.mine,fun β B o h=>by rw[hG.prot];exact hI.prot β B o h,fun β B o h=>hI.new β B o (by rw[hG.prot]at h;exact h),λj k Y L hL=>by
   rw[hG.loc j 0 (yd.1 Y).1];exact hI.keep j k Y L hL⟩
  refine⟨G2,⟨V,?_,λj x Z=>?_,hS.defers⟩,W.step K (Ev.refl J w)⟩
  ·have: ∀(vs:List AV) i,(b6 q.1 vs i).length=vs.length:=by
    intro vs;induction vs with
    |nil=>intro i;rfl
    |cons v r ih=>intro i;simp[b6,ih]
   rw[<-hS.len];exact this _ _
  ·have H:=hG.vals j x;rw[zB]at Z H;obtain⟨z,hz,rfl⟩:=yf.1 Z;rw[hz]at H;cases O:eY (0+j) q.1 with
   |false=>left;rfl
   |true=>
    simp only[yh];rcases hS.tmps j z hz with h|h
    ·exact .inl h
    ·rw[O]at H;exact .inr ((H _ rfl h).mono K (Ev.refl J w))
variable {R:Type}
def HD(P:Program)(C:cC)(an:o5):Prop:= ∀(R:Type) (rid:Nat) (ops:Array Oper) (st:St) (k:St->Option R) (r:R) (G0:Gh) (w0:World) (old:List (Option Bool)) (G:Gh) (w:World) (a:Act) (Q:Exit->Act->World->Prop),
 kS P C an rid ops true st k=some r->SR G w st a->Hb G0 w0 old G w->(∀st' G' w' a',k st'=some r->SR G' w' st' a'->Hb G0 w0 old G' w'->Q .normal a' w')->(Code.region rid ops true).wp P Q a w
theorem Hc{m:aO}{n b:Nat}{x:bV}:(m++List.replicate n none)[b]?=some (some x)↔m[b]?=some (some x):=by
 by_cases H:b<m.length
 ·rw[yq H]
 ·rw[yy (by omega),yt1];constructor
  ·intro h;split at h<;>simp at h
  ·intro h;rw[yc1 (by omega)]at h;cases h
theorem SR.widen{G:Gh}{w:World}{st:St}{a:Act}(h:SR G w st a)(n:Nat):SR G w {st with mem:=st.mem++List.replicate n none} a:=
 ⟨h.memr.congr λb x=>Hc,h.len,h.tmps,h.defers⟩
theorem SR.trim{G:Gh}{w:World}{st:St}{a:Act}(h:SR G w st a):SR G w {st with mem:=trim st.mem} a:=
 ⟨h.memr.congr λb x=>NH,h.len,h.tmps,h.defers⟩
theorem w4{C:cC}(hC:mI P C){an:o5}(hD:HD P C an){rid:Nat}{ops:Array Oper}{H:Bool}{st:St}{k:St->Option R}{r:R}{G0:Gh}{w0:World}{old:List (Option Bool)}{G:Gh}{w:World}{a:Act}
  {Q:Exit->Act->World->Prop} (h:kS P C an rid ops H st k=some r) (hS:SR G w st a) (hI:Hb G0 w0 old G w) (W: ∀J O K N,k J=some r->SR O K J N->Hb G0 w0 old O K->Q .normal N K):
  (Code.region rid ops H).wp P Q a w:=by
 cases H with
 |true=>exact hD R rid ops st k r G0 w0 old G w a Q h hS hI W
 |false=>
  unfold kS at h;apply wp_region
  have:=IF (Q:=Q) (G0:=G0) (w0:=w0) (old:=old) hC (ops:=ops) (rest:=ops.toList) (i:=0) (by simp) h (hS.widen _) hI (λJ Y O K N M U V=>by
   rw[aA]at M
   exact W _ O K N M.2 U.trim V)
  rw[List.range_eq_range'];simpa using this
theorem OX{α:Type}{a b:Option α}{r:α}(h:amb a b=some r):a=some r/\b=some r:=by
 unfold amb at h;split at h
 ·rename_i e;exact⟨h,e ▸ h⟩
 ·cases h
theorem VR.unk_inv{G:Gh}{w:World}{v:Value}(h:VR G w (.imm true (.lit (.bool false))) v): ∃b,v= .bool b:=by
 cases h with
 |imm _ _ _ _ hs=>cases hs
 |unkB b=>exact⟨b,rfl⟩
theorem Nf{C:cC}(hC:mI P C){an:o5}(hD:HD P C an){n:Nat}{old:List (Option Bool)}{G0:Gh}{w0:World}: ∀(c:Code) {W:Nat} {st:St} {k:Ex->St->Option R} {r:R} {G:Gh} {w:World} {a:Act} {Q:Exit->Act->World->Prop},
  cX P C an n old c W st k=some r->SR G w st a->Hb G0 w0 old G w->(∀e J G' V Z,k e J=some r->SR G' V J Z->Hb G0 w0 old G' V->Q e.to Z V)->c.wp P Q a w:=by
 suffices H: ∀(N:Nat) (c:Code),SizeOf.sizeOf c<N->∀{W:Nat} {st:St} {k:Ex->St->Option R} {r:R} {G:Gh} {w:World} {a:Act} {Q:Exit->Act->World->Prop},
  cX P C an n old c W st k=some r->SR G w st a->Hb G0 w0 old G w->(∀e J G' V Z,k e J=some r->SR G' V J Z->Hb G0 w0 old G' V->Q e.to Z V)->c.wp P Q a w from λc=>H _ c (yd3 _)
 intro N
 induction N with
 |zero=>intro c hN;exact absurd hN (Nat.not_lt_zero _)
 |succ N IH=>
 intro c hN;cases c with
 |skip=>intro W st k r G w a Q h hS hI Y;exact wp_skip (Y .normal st G w a h hS hI)
 |ret=>intro W st k r G w a Q h hS hI Y;exact wp_ret (Y .ret st G w a h hS hI)
 |exit id=>intro W st k r G w a Q h hS hI Y;exact wp_exit (Y (.exit id) st G w a h hS hI)
 |seq x y=>
  have ihx:= @IH x (by simp at hN;omega);have ihy:= @IH y (by simp at hN;omega);intro W st k r G w a Q h hS hI Y;simp only[cX]at h;refine wp_seq (ihx h hS hI λe J G' V Z U K O=>?_);cases e with
  |normal=>exact ihy U K O Y
  |exit id=>exact Y (.exit id) J G' V Z U K O
  |ret=>exact Y .ret J G' V Z U K O
  |goto l=>exact Y (.goto l) J G' V Z U K O
 |cond c x y=>
  have ihx:= @IH x (by simp at hN;omega);have ihy:= @IH y (by simp at hN;omega);intro W st k r G w a Q h hS hI Y;simp only[cX]at h;split at h
  ·rename_i t ht;have hc:=(hS.eval c _ ht).lit_inv;cases t with
   |true=>exact wp_cond_true hc (ihx h hS hI Y)
   |false=>exact wp_cond_false hc (ihy h hS hI Y)
  ·rename_i ht;obtain⟨b,hc⟩:=(hS.eval c _ ht).unk_inv;obtain⟨h1,h2⟩:=OX h;cases b with
   |true=>exact wp_cond_true hc (ihx h1 hS hI Y)
   |false=>exact wp_cond_false hc (ihy h2 hS hI Y)
  ·simp at h
 |block id c=>
  have ih:= @IH c (by simp at hN;omega);intro W st k r G w a Q h hS hI Y;simp only[cX]at h;refine wp_block (ih h hS hI λe J G' V Z U K O=>?_);cases e with
  |normal=>exact Y .normal J G' V Z U K O
  |ret=>exact Y .ret J G' V Z U K O
  |goto l=>exact Y (.goto l) J G' V Z U K O
  |exit j=>
   simp only at U;cases hj:Nat.beq j id with
   |true=>
    rw[hj]at U;simp only[yh]at U;obtain rfl:=bZ.1 hj;simp only[Ex.to,Exit.inBlock,if_true];exact Y .normal J G' V Z U K O
   |false=>
    rw[hj]at U;simp only[yg]at U;have hne: ¬j=id:=λh=>by rw[bZ.2 h]at hj;cases hj
    simp only[Ex.to,Exit.inBlock,hne,if_false];exact Y (.exit j) J G' V Z U K O
 |loop c=>
  have ih:= @IH c (by simp at hN;omega);intro W st k r G w a Q h hS hI Y;simp only[cX]at h;rw[bind_some]at h;obtain⟨live,hl,h⟩:=h;refine ML (λm a w=> ∃st G,mF (eY W an.keep) old live (λst k=>cX P C an n old c W st k) m st k=some r/\SR G w st a/\Hb G0 w0 old G w) ⟨st,G,h,hS,hI⟩ ?_
  rintro m a w ⟨st,G,h,hS,hI⟩
  cases m with
  |zero=>simp[mF]at h
  |succ m=>
   simp only[mF]at h;rw[bind_some]at h;obtain⟨st1,h1,h⟩:=h;obtain⟨G1,hS1,hI1⟩:=Jd h1 hS hI;refine ih h hS1 hI1 λe J G' V Z U K O=>?_;cases e with
   |normal=>exact⟨m,yd3 _,J,G',U,K,O⟩
   |exit id=>exact Y (.exit id) J G' V Z U K O
   |ret=>exact Y .ret J G' V Z U K O
   |goto l=>exact Y (.goto l) J G' V Z U K O
 |region rid ops draw=>
  intro W st k r G w a Q h hS hI Y;simp only[cX]at h;rw[bind_some]at h;obtain⟨st1,h1,h⟩:=h;obtain⟨G1,hS1,hI1⟩:=Cj h1 hS hI;exact w4 hC hD h hS1 hI1 (λJ G' V Z U K O=>Y .normal J G' V Z U K O)
 |goto l=>intro W st k r G w a Q h hS hI Y;exact wp_goto (Y (.goto l) st G w a h hS hI)
 |scope c=>
  intro W st k r G w a Q h hS hI Y;cases c with
  |seq x y=>cases x with
   |region r1 o1 d1=>cases y with
    |seq x2 y2=>cases x2 with
     |region r2 o2 d2=>cases y2 with
      |seq x3 b=>cases x3 with
       |label l=>
        simp only[cX]at h;have hsz:SizeOf.sizeOf b<N:=by simp at hN;omega
        have ih:= @IH b hsz;rw[bind_some]at h;obtain⟨st1,h1,h⟩:=h;obtain⟨G1,hS1,hI1⟩:=Cj h1 hS hI;obtain⟨I,hIdef⟩: ∃I:Nat->Act->World->Prop,I=λm a w=> ∃st G live,dS (cF l) an.live=some live/\mF (eY (cF l) an.keep) old live (λst k=>cX P C an n old b (cF l) st (N6 l k)) m st k=some r/\SR G w st a/\Hb G0 w0 old G w:=⟨_,rfl⟩
        have go: ∀(a:Act) (w:World),(∃m,I m a w)->b.wp P (Exit.jump l (λZ V=>(∃m,I m Z V)/\(Classical.epsilon λm=>I m Z V/\∀j,I j Z V->m≤j)<(Classical.epsilon λm=>I m a w/\∀j,I j a w->m≤j)) Q) a w:=by
         intro a w hJ;have hmin:=Classical.epsilon_spec (z8 hJ);generalize (Classical.epsilon λm=>I m a w/\∀j,I j a w->m≤j)=M at hmin⊢
         obtain⟨hM,hle⟩:=hmin;rw[hIdef]at hM;obtain⟨st,G,live,hl,hit,hS,hI⟩:=hM;cases M with
         |zero=>simp[mF]at hit
         |succ M=>
          simp only[mF]at hit;rw[bind_some]at hit;obtain⟨st1,h1,hit⟩:=hit;obtain⟨G1,hS1,hI1⟩:=Jd h1 hS hI;refine ih hit hS1 hI1 λe J G' V Z U K O=>?_;cases e with
          |normal=>simp[N6]at U
          |exit id=>exact Y (.exit id) J G' V Z U K O
          |ret=>exact Y .ret J G' V Z U K O
          |goto l'=>
           simp only[N6]at U;cases hb:Nat.beq l' l with
           |false=>rw[hb]at U;simp at U
           |true=>
            rw[hb]at U;simp only[yh]at U;have hI2:I M Z V:=by rw[hIdef];exact⟨J,G',live,hl,U,K,O⟩
            have hmin':=Classical.epsilon_spec (z8 (p:=λm=>I m Z V) ⟨M,hI2⟩);exact⟨bZ.1 hb,⟨M,hI2⟩,Nat.lt_of_le_of_lt (hmin'.2 M hI2) (yd3 _)⟩
        refine wp_scope_jumps (rest:= .seq .skip b) l (λa w=> ∃m,I m a w) (λa w=>Classical.epsilon λm=>I m a w/\∀j,I j a w->m≤j) (by simp[findLabel]) ?_ (λa w hJ=>wp_seq (wp_skip (go a w hJ)));refine wp_seq (w4 hC hD h hS1 hI1 λJ G' V Z U K O=>?_);rw[bind_some]at U;obtain⟨st2,h2,U⟩:=U;obtain⟨G2,hS2,hI2⟩:=Cj h2 K O;refine wp_seq (w4 hC hD U hS2 hI2 λst3 G3 w3 a3 U hS3 hI3=>?_);rw[bind_some]at U;obtain⟨live,hl,U⟩:=U;have hJ: ∃m,I m a3 w3:=⟨n,by rw[hIdef];exact⟨st3,G3,live,hl,U,hS3,hI3⟩⟩
        refine wp_seq (wp_label ?_);refine wp_mono (go a3 w3 hJ) λe Z V U=>?_;cases e with
        |goto l'=>exact⟨U.1,U.2.1⟩
        |_=>exact U
       |_=>simp[cX]at h
      |_=>simp[cX]at h
     |_=>simp[cX]at h
    |_=>simp[cX]at h
   |_=>simp[cX]at h
  |_=>simp[cX]at h
 |_=>intro W st k r G w a Q h hS hI Y;simp[cX]at h
def S5(tmps:Array Value):ResultVar->Sem Value
 | .tmp t=>pure (tmps.getD t undef)
 | .cell c t=>do loadVar t (<-asAddr (tmps.getD c undef))
theorem Qh(fn:Func)(tmps:Array Value):results fn tmps=(do let vs<-fn.results.mapM (S5 tmps);pure (if h:vs.size=1 then vs[0]else .tuple vs)):=by
 unfold results;congr 1
theorem Ct{G:Gh}{w:World}{st:St}{a:Act}(hS:SR G w st a): ∀{rs:List ResultVar} {vs:List AV},Hh P st.tmps st.mem rs=some vs->
  ∃us:List Value,kI G w vs us/\(rs.mapM (S5 a.tmps)).run P w= .ok us w
 | [],vs,h=>by
  simp[Hh]at h;subst h;exact⟨[],⟨rfl,λj y K=>by simp at K⟩,by simp⟩
 | .tmp t::rs,vs,h=>by
  simp only[Hh]at h;rw[bind_some]at h;obtain⟨v,Z,h⟩:=h;obtain⟨O,U,rfl⟩:=yf.1 h;obtain⟨us,hL,J⟩:=Ct hS U;refine⟨a.tmps.getD t undef::us,⟨by simp[hL.1],λj y K=>?_⟩,?_⟩
  ·cases j with
   |zero=>simp at K;subst K;exact hS.get Z
   |succ j=>simpa using hL.2 j y (by simpa using K)
  ·rw[List.mapM_cons];simp only[S5,Sem.run_bind,Sem.run_pure,Result.andThen_ok,J]
 | .cell c t::rs,vs,h=>by
  simp only[Hh]at h;rw[bind_some]at h;obtain⟨x,Y,h⟩:=h;rw[bind_some]at h;obtain⟨o,N,h⟩:=h;obtain⟨O,U,rfl⟩:=yf.1 h;obtain⟨us,hL,J⟩:=Ct hS U;have H:=hS.get Y;obtain⟨v,rd,rfl,cv,M,V⟩:=F7 hS.memr N H;refine⟨cv::us,⟨by simp[hL.1],λj y K=>?_⟩,?_⟩
  ·cases j with
   |zero=>simp at K;subst K;exact V
   |succ j=>simpa using hL.2 j y (by simpa using K)
  ·rw[List.mapM_cons];have:(S5 a.tmps (.cell c t)).run P w= .ok cv w:=by
    have W: ∃p,a.tmps.getD c undef= .pointer (some p):=by
     unfold lI at N;split at N
     ·generalize a.tmps.getD c undef=z at H;cases H;exact⟨_,rfl⟩
     ·generalize a.tmps.getD c undef=z at H;cases H;exact⟨_,rfl⟩
     ·simp at N
    obtain⟨p,W⟩:=W;show Sem.run P (do loadVar t (<-asAddr (a.tmps.getD c undef))) w=_;rw[W]at M⊢
    simpa[Instr.loadAt,Instr.sureAddr,asAddr]using M
   simp only[Sem.run_bind,this,Result.andThen_ok,J,Sem.run_pure]
def rF(P:Program):Bool:=P.funcs.all fun fn=>!(fn.name== "runtime.NumGoroutine")
theorem Dv{f:FuncId}{fn:Func}{H:Array Value}{w:World}(hf:P.funcs[f]?=some fn)(hn:rF P=true)(hb:fn.body.isSome=true):(callFunc f H).run P w= .ok (.enter f H) w:=by
 have K:(fn.name== "runtime.NumGoroutine")=false:=by
  unfold rF at hn;rw[Array.all_eq_true_iff_forall_mem]at hn;have:=hn fn (Array.mem_of_getElem? hf);simpa using this
 have J:fn.body.isNone=false:=by cases h:fn.body<;>simp_all
 unfold callFunc;simp only[Sem.run_bind,run_program,Result.andThen_ok,hf,K,J,yt2,if_false,Sem.run_pure]
end
end Go.Ab
end
section
namespace Go.Ab
variable [cS]
def Ag(S:List Nat)(mem mem':aO):Prop:= ∀b∈S,mem'[b]?=mem[b]?
theorem Ag.sub{S S':List Nat}{mem mem':aO}(h:Ag S mem mem')(hs: ∀b∈S',b∈S):Ag S' mem mem':=λb H=>h b (hs b H)
theorem box?_ag{mem mem':aO}{b g:Nat}(h:mem'[b]?=mem[b]?):box? mem' b g=box? mem b g:=by unfold box?;rw[h]
theorem IK{mem mem':aO}{b:Nat}(h:mem'[b]?=mem[b]?):rK mem' b=rK mem b:=by unfold rK;rw[h]
theorem Cm{α β:Type}{f J:α->Option (Bool×β×List Nat)}: ∀{xs:List α} {r:Bool×List β×List Nat},i7 f xs=some r->(∀x q,f x=some q->(∀b∈q.2.2,b∈r.2.2)->J x=some q)->i7 J xs=some r
 | [],r,h,_=>h
 |v::xs,r,h,hf=>by
  simp only[i7]at h⊢
  rw[bind_some]at h;obtain⟨a,M,h⟩:=h;rw[bind_some]at h;obtain⟨q,U,h⟩:=h;obtain rfl:=yb h;rw[hf v a M (λb H=>yc2 _ H),Cm U (λx O N K=>hf x O N (λb H=>ye2 _ (K b H)))];rfl
theorem Ft{α β γ:Type}{f J:γ->α->Option (Bool×β×List Nat)}: ∀{ls:List γ} {xs:List α} {r:Bool×List β×List Nat},cP f ls xs=some r->(∀l x q,f l x=some q->(∀b∈q.2.2,b∈r.2.2)->J l x=some q)->cP J ls xs=some r
 | [],[],r,h,_=>h
 | [],v::xs,r,h,hf=>by simp[cP]at h
 |l::ls,[],r,h,hf=>by simp[cP]at h
 |l::ls,v::xs,r,h,hf=>by
  simp only[cP]at h⊢
  rw[bind_some]at h;obtain⟨a,O,h⟩:=h;rw[bind_some]at h;obtain⟨q,N,h⟩:=h;obtain rfl:=yb h;rw[hf l v a O (λb H=>yc2 _ H),Ft N (λl x U M K=>hf l x U M (λb H=>ye2 _ (K b H)))];rfl
section
variable {P:Program}
theorem pG{k:IntKind}{b:Nat}{w:aP}{r:Bool×PV×List Nat}(h:bM.treeInts k b w=some r):b∈r.2.2:=by
 unfold bM.treeInts at h;split at h
 ·rw[aA]at h;obtain⟨_,h⟩:=h;obtain rfl:=yb h;simp
 ·rw[aA]at h;obtain⟨_,h⟩:=h;obtain⟨xs,_,rfl⟩:=yf.1 h;simp
 ·simp at h
theorem wX{f:LK->AV->Option (Bool×PV×List Nat)}{t:TypeId}{e b:Nat}{w:aP}{r:Bool×PV×List Nat}(h:bM.treeSl P f t e b w=some r):b∈r.2.2:=by
 unfold bM.treeSl at h;split at h
 ·rw[aA]at h;obtain⟨_,h⟩:=h;obtain rfl:=yb h;simp
 ·rw[aA]at h;obtain⟨_,h⟩:=h;rw[bind_some]at h;obtain⟨_,_,h⟩:=h;obtain⟨xs,_,rfl⟩:=yf.1 h;simp
 ·simp at h
theorem K5{f M:LK->AV->Option (Bool×PV×List Nat)}{t:TypeId}{e b:Nat}{w:aP}{r:Bool×PV×List Nat}(h:bM.treeSl P f t e b w=some r)
  (hf: ∀l v q,f l v=some q->(∀b∈q.2.2,b∈r.2.2)->M l v=some q):bM.treeSl P M t e b w=some r:=by
 unfold bM.treeSl at h⊢
 split at h
 ·exact h
 ·rw[aA]at h⊢;obtain⟨O,h⟩:=h;refine⟨O,?_⟩;rw[bind_some]at h⊢;obtain⟨ls,J,h⟩:=h;refine⟨ls,J,?_⟩;obtain⟨q,Y,rfl⟩:=yf.1 h;refine yf.2 ⟨q,Cm Y (λvs q1 H V=>?_),rfl⟩;rw[bind_some]at H⊢;obtain⟨U,K,H⟩:=H;obtain⟨p,hp,rfl⟩:=yf.1 H;refine⟨U,Ft K (λl x q' N W=>hf l x q' N (λb Z=>yk _ (V b (W b Z)))),H⟩
 ·simp at h
theorem Md{mem mem':aO}: ∀{n:Nat} {l:LK} {v:AV} {r:Bool×PV×List Nat},bM P mem n l v=some r->Ag r.2.2 mem mem'->bM P mem' n l v=some r
 |0,l,v,r,h,_=>by simp[bM]at h
 |n+1,l,v,r,h,hA=>by
  unfold bM at h⊢
  split at h<;>try exact h
  ·rename_i k b g;rw[bind_some]at h⊢;obtain⟨x,H,h⟩:=h;exact⟨x,by rw[box?_ag (hA b (pG h))];exact H,h⟩
  ·rename_i k b g o m;rw[bind_some]at h⊢;obtain⟨x,H,h⟩:=h;have M:=h;rw[bind_some]at h;obtain⟨w,K,h⟩:=h;exact⟨x,by rw[box?_ag (hA b (pG h))];exact H,M⟩
  ·rename_i t e b g;rw[bind_some]at h⊢;obtain⟨x,H,h⟩:=h;exact⟨x,by rw[box?_ag (hA b (wX h))];exact H,K5 h (λl v q J hs=>Md J (hA.sub hs))⟩
  ·rename_i t e b g o m;rw[bind_some]at h⊢;obtain⟨x,H,h⟩:=h;rw[bind_some]at h;obtain⟨w,K,h⟩:=h;refine⟨x,by rw[box?_ag (hA b (wX h))];exact H,?_⟩;rw[bind_some];exact⟨w,K,K5 h (λl v q J hs=>Md J (hA.sub hs))⟩
variable {mem mem':aO}
theorem boxO?_ag{b g:Nat}(h:mem'[b]?=mem[b]?):boxO? mem' b g=boxO? mem b g:=by unfold boxO?;rw[h]
theorem C1{b:Nat}(h:mem'[b]?=mem[b]?):yU mem' b=yU mem b:=by unfold yU;rw[h]
theorem Uv{n b g:Nat}{l:LK}{r:Bool×PV×List Nat}(h:bM P mem n l (.msw b g)=some r):b∈r.2.2:=by
 cases n with
 |zero=>simp[bM]at h
 |succ n=>
  unfold bM at h;cases l<;>simp only at h<;>first
   |(cases h;done)
   |(rw[bind_some]at h;obtain⟨x,_,h⟩:=h;exact pG h)
   |(rw[bind_some]at h;obtain⟨x,_,h⟩:=h;exact wX h)
theorem VB{n b g o m:Nat}{l:LK}{r:Bool×PV×List Nat}(h:bM P mem n l (.ms b g o m)=some r):b∈r.2.2:=by
 cases n with
 |zero=>simp[bM]at h
 |succ n=>
  unfold bM at h;cases l<;>simp only at h<;>first
   |(cases h;done)
   |(rw[bind_some]at h;obtain⟨x,_,h⟩:=h;rw[bind_some]at h;obtain⟨_,_,h⟩:=h;exact pG h)
   |(rw[bind_some]at h;obtain⟨x,_,h⟩:=h;rw[bind_some]at h;obtain⟨_,_,h⟩:=h;exact wX h)
theorem H3{l:LK}{v:AV}{r:Bool×PV×List Nat}(h:lS P mem l v=some r)(hA:Ag r.2.2 mem mem'):lS P mem' l v=some r:=by
 have K: ∀b g,(v= .msw b g\/∃n,v= .ms b g 0 n)->b∈r.2.2:=by
  intro b g J;unfold lS at h;split at h
  ·rename_i q M;split at h
   ·rw[aA]at h;obtain⟨_,h⟩:=h;obtain rfl:=yb h;obtain⟨g',x,xs,H,_⟩:=Ja M;rcases J with rfl|⟨n,rfl⟩<;>rcases H with ⟨H,_⟩|⟨n',H,_⟩<;>cases H<;>simp
   ·cases h
  ·rcases J with rfl|⟨n,rfl⟩
   ·exact Uv h
   ·exact VB h
 have hO:rC mem' v=rC mem v:=by
  unfold rC;split
  ·rename_i b g;simp only[boxO?_ag (hA b (K b g (.inl rfl)))]
  ·rename_i b g n;simp only[boxO?_ag (hA b (K b g (.inr ⟨n,rfl⟩)))]
  ·rfl
 unfold lS at h⊢
 rw[hO];split at h
 ·exact h
 ·exact Md h hA
theorem HB{t:TypeId}{v:AV}{r:Bool×PV×List Nat}(h:yQ P mem t v=some r)(hA:Ag r.2.2 mem mem'):yQ P mem' t v=some r:=by
 unfold yQ at h⊢
 rw[bind_some]at h⊢;obtain⟨ls,H,h⟩:=h;refine⟨ls,H,?_⟩;rw[bind_some]at h⊢;obtain⟨q,M,h⟩:=h;refine⟨q,Ft M (λl x q' K J=>H3 K (hA.sub λb N=>?_)),h⟩;obtain⟨p,_,rfl⟩:=yf.1 h;exact J b N
theorem Ry{vars:Bool}{t:TypeId}{vs:List AV}{r:aP×List Nat}(h:p6 P vars mem t vs=some r)(hA:Ag r.2 mem mem'):p6 P vars mem' t vs=some r:=by
 unfold p6 at h⊢
 split at h
 ·exact h
 ·rw[bind_some]at h⊢;obtain⟨e,K,h⟩:=h;refine⟨e,K,?_⟩;cases vars with
  |true=>exact h
  |false=>
   simp only[yg]at h⊢
   obtain⟨q,J,rfl⟩:=yf.1 h;exact yf.2 ⟨q,Cm J (λv q' M H=>HB M (hA.sub H)),rfl⟩
theorem zE: ∀{ids:List Nat},Ag ids mem mem'->cM mem' ids=cM mem ids
 | [],_=>rfl
 |b::r,h=>by
  have J:=zE (ids:=r) (h.sub λb H=>yk _ H);simp only[cM,h b (yn ..),J]
theorem CH{J:TypeId}{y:AV}{v:aP×List Nat}(h:view P J mem y=some v)(hA:Ag v.2 mem mem'):view P J mem' y=some v:=by
 unfold view at h⊢
 split at h<;>try exact h
 ·rename_i b g o n;have h':=h;rw[bind_some]at h⊢;obtain⟨x,H,h⟩:=h;obtain⟨w,hw,rfl⟩:=yf.1 h;exact⟨x,by rw[box?_ag (hA b (by simp))];exact H,h⟩
 ·rename_i b g;rw[bind_some]at h⊢;obtain⟨x,H,h⟩:=h;obtain rfl:=yb h;exact⟨x,by rw[box?_ag (hA b (by simp))];exact H,rfl⟩
theorem S9{t:TypeId}{x:AV}{n:Nat×List Nat}(h:lenOf P t mem x=some n)(hA:Ag n.2 mem mem'):lenOf P t mem' x=some n:=by
 unfold lenOf at h⊢
 split at h
 ·exact h
 ·split at h<;>try exact h
  rename_i b g;obtain⟨x,H,rfl⟩:=yf.1 h;exact yf.2 ⟨x,by rw[box?_ag (hA b (by simp))];exact H,rfl⟩
 ·simp at h
variable {out:dY}
theorem T6{t:TypeId}{a:AV}(h:lI P t mem a=some out)(hA:Ag out.rd mem mem'):lI P t mem' a=some out:=by
 unfold lI at h⊢
 split at h
 ·exact h
 ·rename_i b g i c;rw[bind_some]at h⊢;obtain⟨x,H,h⟩:=h;refine⟨x,?_,h⟩;have:b∈out.rd:=by
   split at h
   ·rw[bind_some]at h;obtain⟨ag,_,h⟩:=h;cases ag with
    |true=>
     simp only[yh]at h;rw[bind_some]at h;obtain⟨n,_,h⟩:=h;rw[aA]at h;obtain⟨_,h⟩:=h;obtain rfl:=yb h;simp
    |false=>
     simp only[yg]at h;obtain⟨v,_,rfl⟩:=yf.1 h;simp
   ·rw[aA]at h;obtain⟨_,h⟩:=h;rw[aA]at h;obtain⟨_,h⟩:=h;obtain⟨v,_,rfl⟩:=yf.1 h;simp
   ·rw[bind_some]at h;obtain⟨y,_,h⟩:=h;obtain⟨v,_,rfl⟩:=yf.1 h;simp
   ·cases h
  rw[box?_ag (hA b this)];exact H
 ·simp at h
theorem RX{t:TypeId}{a x:AV}(h:lF P t mem a x=some out)(hA:Ag out.rd mem mem'):lF P t mem' a x=some out:=by
 unfold lF at h⊢
 split at h
 ·rename_i b g i c;rw[bind_some]at h⊢;obtain⟨V,J,h⟩:=h;refine⟨V,?_,?_⟩
  ·have:b∈out.rd:=by
    rw[bind_some]at h;obtain⟨n,_,h⟩:=h;rw[aA]at h;obtain⟨_,h⟩:=h;split at h
    ·rw[aA]at h;obtain⟨_,h⟩:=h;obtain rfl:=yb h;simp
    ·split at h
     ·rw[aA]at h;obtain⟨_,h⟩:=h;obtain rfl:=yb h;simp
     ·simp at h
    ·rw[bind_some]at h;obtain⟨p,_,h⟩:=h;rw[bind_some]at h;obtain⟨q,_,h⟩:=h;rw[aA]at h;obtain⟨_,h⟩:=h;obtain rfl:=yb h;simp
    ·cases h
   rw[box?_ag (hA b this)];exact J
  ·rw[bind_some]at h⊢;obtain⟨n,hn,h⟩:=h;refine⟨n,hn,?_⟩;rw[aA]at h⊢;obtain⟨K,h⟩:=h;refine⟨K,?_⟩;split at h
   ·exact h
   ·exact h
   ·rw[bind_some]at h⊢;obtain⟨p,U,h⟩:=h;refine⟨p,U,?_⟩;rw[bind_some]at h⊢;obtain⟨q,N,h⟩:=h;have M:=h;rw[aA]at h;obtain⟨_,h⟩:=h;obtain rfl:=yb h;have H:Ag q.2.2 mem mem':=hA.sub λb O=>yk _ O;exact⟨q,HB N H,by rw[zE H];exact M⟩
   ·exact h
 ·simp at h
theorem R5{t:TypeId}{x:AV}{i:Int}(h:kG P t mem x i=some out)(hA:Ag out.rd mem mem'):kG P t mem' x i=some out:=by
 unfold kG at h⊢
 split at h
 ·rw[bind_some]at h⊢;obtain⟨s,hs,h⟩:=h;refine⟨s,hs,?_⟩;split at h<;>try exact h
  ·rename_i b g o n;rw[bind_some]at h⊢;obtain⟨J,H,h⟩:=h;refine⟨J,?_,h⟩;rw[aA]at h;obtain⟨_,h⟩:=h;obtain rfl:=yb h;rw[box?_ag (hA b (by simp))];exact H
  ·rename_i b g;rw[bind_some]at h⊢;obtain⟨J,H,h⟩:=h;refine⟨J,?_,h⟩;rw[aA]at h;obtain⟨_,h⟩:=h;obtain rfl:=yb h;rw[box?_ag (hA b (by simp))];exact H
 ·exact h
 ·simp at h
theorem SI{t:TypeId}{x:AV}{K N M:Option Int}(h:iN P t mem x K N M=some out)(hA:Ag out.rd mem mem'):iN P t mem' x K N M=some out:=by
 unfold iN at h⊢
 split at h
 ·exact h
 ·rw[bind_some]at h⊢;obtain⟨s,hs,h⟩:=h;refine⟨s,hs,?_⟩;split at h<;>try exact h
  ·rename_i b g o n;rw[bind_some]at h⊢;obtain⟨J,H,h⟩:=h;refine⟨J,?_,h⟩;rw[aA]at h;obtain⟨_,h⟩:=h;obtain⟨q,_,rfl⟩:=yf.1 h;rw[box?_ag (hA b (by simp))];exact H
  ·rename_i b g;rw[bind_some]at h⊢;obtain⟨J,H,h⟩:=h;refine⟨J,?_,h⟩;rw[aA]at h;obtain⟨_,h⟩:=h;obtain⟨q,_,rfl⟩:=yf.1 h;rw[box?_ag (hA b (by simp))];exact H
 ·rw[bind_some]at h⊢;obtain⟨s,hs,h⟩:=h;refine⟨s,hs,?_⟩;split at h
  ·rename_i b g c;rw[aA]at h⊢;obtain⟨O,h⟩:=h;refine⟨O,?_⟩;rw[bind_some]at h⊢;obtain⟨J,H,h⟩:=h;refine⟨J,?_,h⟩;split at h
   ·rw[aA]at h;obtain⟨_,h⟩:=h;obtain⟨q,_,rfl⟩:=yf.1 h;rw[box?_ag (hA b (by simp))];exact H
   ·simp at h
  ·simp at h
 ·simp at h
theorem Qy{boxed vars:Bool}{t W:TypeId}{rs:Nat}{x y:AV}(h:j8 P boxed vars t W mem rs x y=some out)(hA:Ag out.rd mem mem'):j8 P boxed vars t W mem' rs x y=some out:=by
 unfold j8 at h⊢
 rw[bind_some]at h⊢;obtain⟨et,M,h⟩:=h;refine⟨et,M,?_⟩;rw[bind_some]at h⊢;obtain⟨s,hs,h⟩:=h;refine⟨s,hs,?_⟩;rw[bind_some]at h⊢;obtain⟨bytes,U,h⟩:=h;refine⟨bytes,U,?_⟩;rw[bind_some]at h⊢;obtain⟨z,Z,h⟩:=h;refine⟨z,Z,?_⟩;rw[bind_some]at h⊢;obtain⟨O,H,h⟩:=h;have h0:=h;rw[aA]at h;obtain⟨Y,h⟩:=h;split at h
 ·refine⟨O,?_,h0⟩;rw[aA]at h;obtain⟨_,h⟩:=h;refine CH H (hA.sub λb K=>?_);cases boxed with
  |true=>simp only[yh]at h;obtain⟨row,_,rfl⟩:=yf.1 h;exact K
  |false=>simp only[yg]at h;obtain⟨v,_,rfl⟩:=yf.1 h;exact K
 ·rename_i b g;have h1:=h;rw[bind_some]at h;obtain⟨V,J,h⟩:=h;have N:=h;rw[bind_some]at h;obtain⟨zv,_,h⟩:=h;rw[aA]at h;obtain⟨_,h⟩:=h;obtain rfl:=yb h;refine⟨O,CH H (hA.sub λb K=>yk _ K),?_⟩;rw[aA];refine⟨Y,?_⟩;rw[bind_some];exact⟨V,by rw[box?_ag (hA b (yn ..))];exact J,N⟩
 ·rename_i b g o n;have h1:=h;rw[bind_some]at h;obtain⟨V,J,h⟩:=h;have N:=h;rw[bind_some]at h;obtain⟨xv,_,h⟩:=h;rw[bind_some]at h;obtain⟨zv,_,h⟩:=h;rw[aA]at h;obtain⟨_,h⟩:=h;obtain rfl:=yb h;refine⟨O,CH H (hA.sub λb K=>yk _ K),?_⟩;rw[aA];refine⟨Y,?_⟩;rw[bind_some];exact⟨V,by rw[box?_ag (hA b (yn ..))];exact J,N⟩
 ·simp at h
theorem TM{t J:TypeId}{rs:Nat}{n:Int}(h:FZ P t J mem rs n=some out):FZ P t J mem' rs n=some out:=by
 unfold FZ at h⊢
 split at h
 ·rw[bind_some]at h⊢;obtain⟨M,H,h⟩:=h;refine⟨M,H,?_⟩;rw[bind_some]at h⊢;obtain⟨z,O,h⟩:=h;refine⟨z,O,?_⟩;split at h
  ·rw[bind_some]at h⊢;obtain⟨q,V,h⟩:=h;have U:=h;rw[bind_some]at h;obtain⟨e,_,h⟩:=h;rw[bind_some]at h;obtain⟨bytes,_,h⟩:=h;rw[aA]at h;have K:=h.1;simp only[yc]at K;exact⟨q,HB V (by rw[qB K.2.2];exact λb N=>by cases N),U⟩
  ·cases h
 ·cases h
theorem NV{boxed vars:Bool}{b:Builtin}{ts:List TypeId}{rs:Nat}{args:List AV}(h:eZ P boxed vars b ts mem rs args=some out)(hA:Ag out.rd mem mem'):eZ P boxed vars b ts mem' rs args=some out:=by
 unfold eZ at h⊢
 split at h
 ·obtain⟨n,hn,rfl⟩:=yf.1 h;exact yf.2 ⟨n,S9 hn hA,rfl⟩
 ·exact TM h
 ·exact Qy h hA
 ·exact h
 ·exact h
 ·exact h
 ·simp at h
theorem M4{boxed:Bool}{H dst:TypeId}{rs:Nat}{x:AV}(h:n8 P boxed H dst mem rs x=some out)(hA:Ag out.rd mem mem'):n8 P boxed H dst mem' rs x=some out:=by
 unfold n8 at h⊢
 split at h
 ·exact h
 ·exact h
 ·split at h
  ·rw[bind_some]at h⊢;obtain⟨v,M,h⟩:=h;refine⟨v,CH M ?_,h⟩;rw[aA]at h;obtain⟨_,h⟩:=h;split at h
   ·obtain rfl:=yb h;exact hA
   ·simp at h
  ·exact h
 ·split at h
  ·rw[aA]at h⊢;obtain⟨K,h⟩:=h;refine⟨K,?_⟩;rw[bind_some]at h⊢;obtain⟨x,J,h⟩:=h;refine⟨x,?_,h⟩;rw[aA]at h;obtain⟨_,h⟩:=h;obtain rfl:=yb h;rw[box?_ag (hA _ (by simp))];exact J
  ·exact h
 ·simp at h
theorem zO{l:LK}{v:AV}{r:AV×List Nat}(h:jQ P mem l v=some r)(hA:Ag r.2 mem mem'):jQ P mem' l v=some r:=by
 unfold jQ at h⊢
 split at h
 ·obtain⟨q,H,rfl⟩:=yf.1 h;exact yf.2 ⟨q,H3 H hA,rfl⟩
 ·obtain⟨q,H,rfl⟩:=yf.1 h;exact yf.2 ⟨q,H3 H hA,rfl⟩
 ·exact h
theorem Ec: ∀{ls:List LK} {vs:List AV} {r:List AV×List Nat},cG P mem ls vs=some r->Ag r.2 mem mem'->cG P mem' ls vs=some r
 | [],[],r,h,_=>h
 | [],v::vs,r,h,_=>by simp[cG]at h
 |l::ls,[],r,h,_=>by simp[cG]at h
 |l::ls,v::vs,r,h,hA=>by
  simp only[cG]at h⊢
  rw[bind_some]at h;obtain⟨a,J,h⟩:=h;rw[bind_some]at h;obtain⟨b,H,h⟩:=h;obtain rfl:=yb h;rw[zO J (hA.sub λb H=>yc2 _ H),Ec H (hA.sub λb H=>ye2 _ H)];rfl
theorem UM{t:TypeId}{v:AV}{r:AV×List Nat}(h:lend P mem t v=some r)(hA:Ag r.2 mem mem'):lend P mem' t v=some r:=by
 unfold lend at h⊢
 split at h
 ·rw[bind_some]at h⊢;obtain⟨l,K,h⟩:=h;exact⟨l,K,zO h hA⟩
 ·rw[bind_some]at h⊢;obtain⟨l,K,h⟩:=h;exact⟨l,K,zO h hA⟩
 ·rename_i cs;cases H:KF cs with
  |true=>
   rw[H]at h;simp only[yh]at h⊢
   rw[bind_some]at h⊢;obtain⟨ls,J,h⟩:=h;refine⟨ls,J,?_⟩;obtain⟨q,M,rfl⟩:=yf.1 h;exact yf.2 ⟨q,Ec M hA,rfl⟩
  |false=>rw[H]at h;exact h
 ·exact h
theorem HO: ∀{ts:List TypeId} {vs:List AV} {r:List AV×List Nat},iT P mem ts vs=some r->Ag r.2 mem mem'->iT P mem' ts vs=some r
 | [],[],r,h,_=>h
 | [],v::vs,r,h,_=>by simp[iT]at h
 |t::ts,[],r,h,_=>by simp[iT]at h
 |t::ts,v::vs,r,h,hA=>by
  simp only[iT]at h⊢
  rw[bind_some]at h;obtain⟨a,J,h⟩:=h;rw[bind_some]at h;obtain⟨b,H,h⟩:=h;obtain rfl:=yb h;rw[UM J (hA.sub λb H=>yc2 _ H),HO H (hA.sub λb H=>ye2 _ H)];rfl
theorem Fl: ∀{n:Nat} {H seen:List Nat},∀b∈seen,b∈i9 mem n H seen
 |0,H,seen,b,J=>by simpa[i9]using J
 |n+1,[],seen,b,J=>by simpa[i9]using J
 |n+1,t::H,seen,b,J=>by
  simp only[i9];cases eY t seen with
  |true=>simp only[yh];exact Fl b J
  |false=>simp only[yg];exact Fl b (yc2 _ J)
theorem Il: ∀{n:Nat} {H seen:List Nat},Ag (i9 mem n H seen) mem mem'->i9 mem' n H seen=i9 mem n H seen
 |0,H,seen,_=>by simp[i9]
 |n+1,[],seen,_=>by simp[i9]
 |n+1,t::H,seen,hA=>by
  simp only[i9]at hA⊢
  cases hm:eY t seen with
  |true=>rw[hm]at hA;simp only[yh]at hA⊢;exact Il hA
  |false=>
   rw[hm]at hA;simp only[yg]at hA⊢
   have ht:mem'[t]?=mem[t]?:=hA t (Fl t (by simp));have:FH mem' t=FH mem t:=by unfold FH;rw[ht]
   rw[this];exact Il hA
theorem HM: ∀{ids:List Nat} {b n:Nat},b∉ids->As b ids n=none
 | [],b,n,_=>rfl
 |m::r,b,n,h=>by
  simp only[As];cases H:Nat.beq m b with
  |true=>exact absurd (by rw[bZ.1 H];exact yn ..) h
  |false=>simp only[yg];exact HM λJ=>h (yk _ J)
theorem PH{b:Nat}(h:mem'[b]?=mem[b]?):nS mem' b=nS mem b:=by unfold nS;rw[h]
theorem TC{m:Nat}{keep:Bool}{ids:List Nat}(hA:Ag ids mem mem'):gR m keep mem' ids=gR m keep mem ids:=by
 funext b g;by_cases H:b∈ids
 ·unfold gR;rw[IK (hA b H),PH (hA b H)]
 ·have K:As b ids 0=none:=HM H;have: ∀J:aO,gR m keep J ids b g=none:=by
   intro J;unfold gR;split
   ·rw[K];cases Nat.beq _ g<;>rfl
   ·rfl
  rw[this,this]
theorem JV{m:Nat}{keep:Bool}(f:mS): ∀{ids:List Nat} {n:Nat},Ag ids mem mem'->e7 m keep f mem' n ids=e7 m keep f mem n ids
 | [],_,_=>rfl
 |b::r,n,h=>by
  simp only[e7,h b (yn ..),JV f (ids:=r) (h.sub λb H=>yk _ H)]
theorem vN(f:mS): ∀{ids:List Nat} {q:aO},Ag ids mem mem'->bR f mem' ids q=bR f mem ids q
 | [],q,_=>by simp[bR]
 |a::ids,[],_=>by simp[bR]
 |a::ids,none::q,h=>by simp only[bR];exact vN f (h.sub λb H=>yk _ H)
 |a::ids,some x::q,h=>by
  simp only[bR,IK (h a (yn ..)),vN f (ids:=ids) (q:=q) (h.sub λb H=>yk _ H)]
theorem Ps{sub:aO}{ids:List Nat}(H:mem'.length=mem.length)(hA:Ag ids mem mem'):dF mem' sub ids=dF mem sub ids:=by
 funext b g;unfold dF;cases J:ids[b]? with
 |none=>simp only[H]
 |some a=>simp only[IK (hA a (yj J))]
theorem Te{keep:Bool}{ts:List TypeId}{vs:List AV}{r:List AV×List Nat}(h:NQ P keep mem ts vs=some r)(hA:Ag r.2 mem mem'):NQ P keep mem' ts vs=some r:=by
 cases keep with
 |true=>exact h
 |false=>exact HO h hA
theorem Uq{C:cC}{raw keep:Bool}{g:FuncId}{ts:List TypeId}{K args H:List AV}(W:mem'.length=mem.length)(h:BE P C raw keep g ts K args H mem=some out)(hA:Ag out.rd mem mem'):BE P C raw keep g ts K args H mem'=some out:=by
 unfold BE at h⊢
 rw[bind_some]at h⊢;obtain⟨J,O,h⟩:=h;simp only at h;have U:out.rd=J.2++i9 mem (d8 mem (AV.refsAll (K++J.1++H)).length) (AV.refsAll (K++J.1++H)) []:=by
  rw[aA]at h;obtain⟨_,h⟩:=h;rw[bind_some]at h;obtain⟨q,_,h⟩:=h;rw[aA]at h;obtain⟨_,h⟩:=h;revert h
  cases(iH (i9 mem (d8 mem (AV.refsAll (K++J.1++H)).length) (AV.refsAll (K++J.1++H)) []).length
    (bif raw then q.1 else oV (i9 mem (d8 mem (AV.refsAll (K++J.1++H)).length) (AV.refsAll (K++J.1++H)) []).length q.2 q.1).refs&&
     iH (i9 mem (d8 mem (AV.refsAll (K++J.1++H)).length) (AV.refsAll (K++J.1++H)) []).length
      (cV (List.take (i9 mem (d8 mem (AV.refsAll (K ++ J.1 ++ H)).length) (AV.refsAll (K ++ J.1 ++ H)) []).length q.2))) with
  |true=>intro h;simp only[yh]at h;obtain rfl:=yb h;rfl
  |false=>intro h;simp only[yg]at h;obtain rfl:=yb h;rfl
 rw[U]at hA;refine⟨J,Te O (hA.sub λb V=>yc2 _ V),?_⟩;have N: ∀n,d8 mem' n=d8 mem n:=λn=>by unfold d8;rw[W]
 have M:=hA.sub (S':=i9 mem (d8 mem (AV.refsAll (K++J.1++H)).length) (AV.refsAll (K++J.1++H)) []) λb V=>ye2 _ V;simp only[N,Il M,TC M,JV _ M,Ps W M,vN _ M];exact h
theorem Wj{C:cC}{boxed raw vars:Bool}{o:Oper}{ρ:Operand->Option AV}{rs:Nat}(hl:oB o=true->mem'.length=mem.length)(h:Ra P C boxed raw vars o ρ mem rs=some out)(hA:Ag out.rd mem mem'):
  Ra P C boxed raw vars o ρ mem' rs=some out:=by
 unfold Ra IL CC Nd Do iA AS OQ NJ Ux IR En A6 oN C8 AH sY Fp at h⊢
 split at h<;>rename_i hop<;>try exact h
 ·rw[bind_some]at h⊢;obtain⟨V,H,h⟩:=h;refine⟨V,H,?_⟩;rw[bind_some]at h⊢;obtain⟨z,U,h⟩:=h;refine⟨z,U,?_⟩;rw[bind_some]at h⊢;obtain⟨s,hs,h⟩:=h;refine⟨s,hs,?_⟩;rw[bind_some]at h⊢;obtain⟨ps,hps,h⟩:=h;refine⟨ps,hps,?_⟩;rw[aA]at h⊢;obtain⟨K,h⟩:=h;refine⟨K,?_⟩;rw[bind_some]at h⊢;obtain⟨wv,W,h⟩:=h;have h':=h;rw[aA]at h;obtain⟨_,h⟩:=h;obtain⟨ov,_,rfl⟩:=yf.1 h;exact⟨wv,Ry W hA,by rw[zE hA];exact h'⟩
 ·rw[bind_some]at h⊢;obtain⟨a,N,h⟩:=h;exact⟨a,N,T6 h hA⟩
 ·rw[bind_some]at h⊢;obtain⟨a,N,h⟩:=h;refine⟨a,N,?_⟩;rw[bind_some]at h⊢;obtain⟨x,M,h⟩:=h;exact⟨x,M,RX h hA⟩
 ·rw[bind_some]at h⊢;obtain⟨a,N,h⟩:=h;exact⟨a,N,M4 h hA⟩
 ·rw[bind_some]at h⊢;obtain⟨V,H,h⟩:=h;refine⟨V,H,?_⟩;rw[bind_some]at h⊢;obtain⟨z,U,h⟩:=h;refine⟨z,U,?_⟩;rw[bind_some]at h⊢;obtain⟨l,O,h⟩:=h;refine⟨l,O,?_⟩;rw[bind_some]at h⊢;obtain⟨c,hc,h⟩:=h;refine⟨c,hc,?_⟩;split at h
  ·rw[aA]at h⊢;obtain⟨K,h⟩:=h;refine⟨K,?_⟩;split at h
   ·exact h
   ·rw[bind_some]at h⊢;obtain⟨q,hq,h⟩:=h;refine⟨q,?_,h⟩;rw[bind_some]at h;obtain⟨e,_,h⟩:=h;rw[bind_some]at h;obtain⟨bytes,_,h⟩:=h;rw[aA]at h;obtain⟨K,h⟩:=h;simp only[yc]at K;have:q.2.2= []:=qB K.2;exact HB hq (by rw[this];intro b hb;cases hb)
  ·exact h
 ·rw[bind_some]at h⊢;obtain⟨x,M,h⟩:=h;refine⟨x,M,?_⟩;rw[bind_some]at h⊢;obtain⟨lo,Z,h⟩:=h;refine⟨lo,Z,?_⟩;rw[bind_some]at h⊢;obtain⟨hi,Y,h⟩:=h;refine⟨hi,Y,?_⟩;rw[bind_some]at h⊢;obtain⟨mx,hmx,h⟩:=h;exact⟨mx,hmx,SI h hA⟩
 ·rw[bind_some]at h⊢;obtain⟨x,M,h⟩:=h;refine⟨x,M,?_⟩;rw[bind_some]at h⊢;obtain⟨ix,hix,h⟩:=h;refine⟨ix,hix,?_⟩;split at h
  ·exact R5 h hA
  ·exact h
 ·rename_i c;rw[bind_some]at h⊢;obtain⟨args,J,h⟩:=h;refine⟨args,J,?_⟩;split at h
  ·exact NV h hA
  ·rename_i f hc;rw[bind_some]at h⊢;obtain⟨fv,hf,h⟩:=h;refine⟨fv,hf,?_⟩;split at h
   ·exact Uq (hl (by unfold oB;rw[hop];simp only;rw[hc])) h hA
   ·exact h
  ·exact h
theorem qI{ρ ρ':Operand->Option AV}: ∀{xs:List Operand},(∀x∈xs,ρ' x=ρ x)->qT ρ' xs=qT ρ xs
 | [],_=>rfl
 |x::r,h=>by simp only[qT,h x (yn ..),qI (xs:=r) (λy H=>h y (yk _ H))]
theorem pH{ρ ρ':Operand->Option AV}: ∀{xs:List (Nat×Operand)},(∀x∈xs.map (·.2),ρ' x=ρ x)->m8 ρ' xs=m8 ρ xs
 | [],_=>rfl
 |(i,x)::r,h=>by simp only[m8,h x (by simp),pH (xs:=r) (λy H=>h y (yk _ H))]
theorem nF{ρ ρ':Operand->Option AV}{x:Option Operand}(h: ∀y,x=some y->ρ' y=ρ y):CI ρ' x=CI ρ x:=by
 cases x with
 |none=>rfl
 |some y=>simp only[CI,h y rfl]
theorem Vz{C:cC}{boxed raw vars:Bool}{o:Oper}{ρ ρ':Operand->Option AV}{rs:Nat}(h: ∀x∈o.op.operands,ρ' x=ρ x):Ra P C boxed raw vars o ρ' mem rs=Ra P C boxed raw vars o ρ mem rs:=by
 obtain⟨dst,op,N,JY,M,guard⟩:=o;cases op<;>simp only[Op.operands]at h<;>simp only[Ra,IL,CC,Nd,Do,iA,AS,OQ,NJ,Ux,IR,En,A6,oN,C8,AH,sM,sY,Fp]
 case move x=>simp only[zX,h x (by simp)]
 case assign x=>simp only[zX,h x (by simp)]
 case build t ps=>rw[pH (λx H=>h x (by simpa using H))]
 case buildSlice t n ps=>rw[pH (λx H=>h x (by simpa using H))]
 case makeFunc fn first captured=>
  rw[qI (xs:=first.toList) λx H=>h x (by simp at H⊢;exact .inl H),qI (xs:=captured.toList) λx H=>h x (by simp at H⊢;exact .inr H)]
 case slice t x lo hi mx=>
  rw[h x (by simp),nF (x:=lo) λy J=>h y (by simp[J]),nF (x:=hi) λy J=>h y (by simp[J]),nF (x:=mx) λy J=>h y (by simp[J])]
 case call c=>
  obtain⟨K,args,ts⟩:=c;simp only[Call.operands]at h;rw[qI (xs:=args.toList) λx H=>h x (by simp at H⊢;exact .inr H)];cases K with
  |builtin b=>rfl
  |value f=>simp only[h f (by simp)]
  |invoke r m=>rfl
 all_goals (first|rfl|(simp_all;done))
theorem NK{xs:List PV}{i c:Nat}{l:LK}{hs:List (Nat×Nat×AV)}{nb nb':Nat}:qZ false xs i c l hs nb=qZ false xs i c l hs nb':=by
 unfold qZ;cases xs[i]? with
 |none=>rfl
 |some p=>
  simp only[ya];cases p.cells[c]? with
  |none=>rfl
  |some y=>
   simp only[ya];split
   ·rfl
   ·cases B9 l<;>rfl
theorem KZ{xs:List PV}{i:Nat}: ∀{ls:List LK} {c:Nat} {hs:List (Nat×Nat×AV)} {nb nb':Nat},rX false xs i ls c hs nb=rX false xs i ls c hs nb'
 | [],c,hs,nb,nb'=>rfl
 |l::ls,c,hs,nb,nb'=>by
  simp only[rX];rw[NK (nb':=nb')];cases qZ false xs i c l hs nb' with
  |none=>rfl
  |some a=>simp only[ya];rw[KZ (ls:=ls) (nb:=nb+a.2.2.length) (nb':=nb'+a.2.2.length)]
theorem NX{b e:Nat}{H:bV}{xs:List PV}{v:AV}{q:List (Nat×Nat×AV)×List bC}:(Dj b e H xs v q).rd= [b]:=by unfold Dj;split<;>rfl
theorem NS{t:TypeId}{a:AV}(h:Eb P false t mem a=some out)(hA:Ag out.rd mem mem'):Eb P false t mem' a=some out/\∀b g i c,a= .ptr b g i c->b∈out.rd:=by
 unfold Eb at h⊢
 split at h
 ·rename_i b g i c;rw[bind_some]at h;obtain⟨bx,J,h⟩:=h;have H:b∈out.rd:=by
   split at h
   ·split at h
    ·rw[bind_some]at h;obtain⟨l,hl,h⟩:=h;obtain⟨q,M,rfl⟩:=yf.1 h;rw[NX];simp
    ·rw[bind_some]at h;obtain⟨ls,K,h⟩:=h;rw[bind_some]at h;obtain⟨n,hn,h⟩:=h;rw[aA]at h;obtain⟨_,h⟩:=h;obtain⟨q,M,rfl⟩:=yf.1 h;rw[NX];simp
    ·cases h
   ·cases h
  refine⟨?_,λb' g' i' c' N=>by cases N;exact H⟩;rw[boxO?_ag (hA b H),J,ya];split at h
  ·split at h
   ·simp only[NK (nb:=mem'.length) (nb':=mem.length)];exact h
   ·simp only[KZ (nb:=mem'.length) (nb':=mem.length)];exact h
   ·exact h
  ·exact h
 ·cases h
theorem Ru{t:TypeId}{a x:AV}(h:oR P t mem a x=some out)(hA:Ag out.rd mem mem'):oR P t mem' a x=some out/\∀b g i c,a= .ptr b g i c->b∈out.rd:=by
 unfold oR at h⊢
 split at h
 ·rename_i b g i c;rw[bind_some]at h;obtain⟨bx,J,h⟩:=h;have H:b∈out.rd:=by
   split at h
   ·rw[bind_some]at h;obtain⟨n,hn,h⟩:=h;rw[aA]at h;obtain⟨_,h⟩:=h;rw[bind_some]at h;obtain⟨p,_,h⟩:=h;rw[bind_some]at h;obtain⟨y,_,h⟩:=h;split at h
    ·rw[aA]at h;obtain⟨_,h⟩:=h;obtain rfl:=yb h;simp
    ·cases h
    ·rw[bind_some]at h;obtain⟨y',_,h⟩:=h;obtain⟨hs',_,rfl⟩:=yf.1 h;simp
    ·cases h
    ·obtain⟨hs',_,rfl⟩:=yf.1 h;simp
   ·cases h
  refine⟨?_,λb' g' i' c' K=>by cases K;exact H⟩;rw[boxO?_ag (hA b H),J,ya];exact h
 ·cases h
theorem UX{t:TypeId}{x:AV}(h:Ox P t mem x=some out)(hA:Ag out.rd mem mem'):Ox P t mem' x=some out/\∀b g,x= .msw b g->b∈out.rd:=by
 unfold Ox at h⊢
 split at h
 ·rename_i e b g hu;obtain⟨bx,H,rfl⟩:=yf.1 h;refine⟨?_,λb' g' J=>by cases J;simp⟩;rw[boxO?_ag (hA b (by simp)),H];rfl
 ·cases h
def Ac:AV->Option Nat
 | .msw b _=>some b
 | .ms b _ _ _=>some b
 |_=>none
theorem Sn{t:TypeId}{x:AV}{i:Int}(h:vL P t mem x i=some out)(hA:Ag out.rd mem mem'):vL P t mem' x i=some out/\∀b,Ac x=some b->b∈out.rd:=by
 unfold vL at h⊢
 split at h
 ·rw[bind_some]at h;obtain⟨s,hs,h⟩:=h;simp only[hs,ya];split at h
  ·rename_i b g o n;rw[bind_some]at h;obtain⟨M,H,h⟩:=h;have K:=h;rw[aA]at h;obtain⟨_,h⟩:=h;obtain rfl:=yb h;refine⟨?_,λN J=>by cases J;simp⟩;rw[boxO?_ag (hA b (by simp)),H];exact K
  ·rename_i b g;rw[bind_some]at h;obtain⟨M,H,h⟩:=h;have K:=h;rw[aA]at h;obtain⟨_,h⟩:=h;obtain rfl:=yb h;refine⟨?_,λN J=>by cases J;simp⟩;rw[boxO?_ag (hA b (by simp)),H];exact K
  ·cases h
 ·cases h
theorem SE{t:TypeId}{x:AV}{M O N:Option Int}(h:vK P t mem x M O N=some out)(hA:Ag out.rd mem mem'):vK P t mem' x M O N=some out/\∀b,Ac x=some b->b∈out.rd:=by
 unfold vK at h⊢
 split at h
 ·rw[bind_some]at h;obtain⟨s,hs,h⟩:=h;simp only[hs,ya];split at h
  ·rename_i b g o n;rw[bind_some]at h;obtain⟨V,H,h⟩:=h;have J:=h;rw[aA]at h;obtain⟨_,h⟩:=h;obtain⟨q,_,rfl⟩:=yf.1 h;refine⟨?_,λU K=>by cases K;simp⟩;rw[boxO?_ag (hA b (by simp)),H];exact J
  ·rename_i b g;rw[bind_some]at h;obtain⟨V,H,h⟩:=h;have J:=h;rw[aA]at h;obtain⟨_,h⟩:=h;obtain⟨q,_,rfl⟩:=yf.1 h;refine⟨?_,λU K=>by cases K;simp⟩;rw[boxO?_ag (hA b (by simp)),H];exact J
  ·cases h
 ·cases h
theorem QB{own:Bool}{t U:TypeId}{rs:Nat}{x y:AV}(h:pF P own t U mem rs x y=some out)(hA:Ag out.rd mem mem'):pF P own t U mem' rs x y=some out/\∀b,Ac x=some b->b∈out.rd:=by
 unfold pF at h⊢
 rw[bind_some]at h;obtain⟨et,K,h⟩:=h;rw[bind_some]at h;obtain⟨s,hs,h⟩:=h;rw[bind_some]at h;obtain⟨bytes,O,h⟩:=h;rw[bind_some]at h;obtain⟨z,W,h⟩:=h;rw[bind_some]at h;obtain⟨ls,N,h⟩:=h;rw[bind_some]at h;obtain⟨Y,M,h⟩:=h;simp only[K,hs,O,W,N,ya];have J:(∀b∈Y.2,b∈out.rd)/\∀b,Ac x=some b->b∈out.rd:=by
  split at h
  ·rw[aA]at h;obtain⟨_,h⟩:=h;split at h
   ·rw[aA]at h;obtain⟨_,h⟩:=h;rw[bind_some]at h;obtain⟨q,_,h⟩:=h;rw[aA]at h;obtain⟨_,h⟩:=h;obtain rfl:=yb h;exact⟨λb H=>H,λb H=>by cases H⟩
   ·rw[bind_some]at h;obtain⟨Z,_,h⟩:=h;split at h
    ·rw[bind_some]at h;obtain⟨q,_,h⟩:=h;rw[aA]at h;obtain⟨_,h⟩:=h;obtain rfl:=yb h;exact⟨λb H=>yk _ H,λb H=>by cases H;simp⟩
    ·cases h
   ·rw[bind_some]at h;obtain⟨Z,_,h⟩:=h;split at h
    ·rw[bind_some]at h;obtain⟨q,_,h⟩:=h;rw[aA]at h;obtain⟨_,h⟩:=h;obtain rfl:=yb h;exact⟨λb H=>yk _ H,λb H=>by cases H;simp⟩
    ·cases h
   ·cases h
  ·cases h
 refine⟨?_,J.2⟩;rw[CH M (hA.sub J.1),ya];split at h
 ·rw[aA]at h⊢;obtain⟨V,h⟩:=h;refine⟨V,?_⟩;split at h
  ·exact h
  ·rename_i b g;rw[boxO?_ag (hA b (J.2 b rfl))];exact h
  ·rename_i b g n;rw[boxO?_ag (hA b (J.2 b rfl))];exact h
  ·exact h
 ·exact h
theorem kR{ρ:Operand->Option AV}{p H:AV->Bool}{x:Operand}{v:AV}(J:ρ x=some v)(h:H v=p v):oY ρ H x=oY ρ p x:=by unfold oY;rw[J];exact h
theorem Hz{v:AV}(h: ∀b g i c,v= .ptr b g i c->mem'[b]?=mem[b]?):LI mem' v=LI mem v:=by
 cases v with
 |ptr b g i c=>exact C1 (h b g i c rfl)
 |_=>rfl
theorem AR{v:AV}(h: ∀b,Ac v=some b->mem'[b]?=mem[b]?):BZ mem' v=BZ mem v:=by
 cases v with
 |msw b g=>exact C1 (h b rfl)
 |ms b g o n=>exact C1 (h b rfl)
 |_=>rfl
theorem QV{v:AV}(h: ∀b g,v= .msw b g->mem'[b]?=mem[b]?):L0 mem' v=L0 mem v:=by
 cases v with
 |msw b g=>exact C1 (h b g rfl)
 |_=>rfl
theorem Oc{t:TypeId}{b g i c:Nat}(h:lI P t mem (.ptr b g i c)=some out):b∈out.rd:=by
 unfold lI at h;simp only at h;rw[bind_some]at h;obtain⟨x,hx,h⟩:=h;split at h
 ·rw[bind_some]at h;obtain⟨ag,_,h⟩:=h;cases ag with
  |true=>
   simp only[yh]at h;rw[bind_some]at h;obtain⟨n,_,h⟩:=h;rw[aA]at h;obtain⟨_,h⟩:=h;obtain rfl:=yb h;simp
  |false=>
   simp only[yg]at h;obtain⟨v,_,rfl⟩:=yf.1 h;simp
 ·rw[aA]at h;obtain⟨_,h⟩:=h;rw[aA]at h;obtain⟨_,h⟩:=h;obtain⟨v,_,rfl⟩:=yf.1 h;simp
 ·rw[bind_some]at h;obtain⟨y,_,h⟩:=h;obtain⟨v,_,rfl⟩:=yf.1 h;simp
 ·cases h
theorem R8{t:TypeId}{x:AV}{b g i c:Nat}(h:lF P t mem (.ptr b g i c) x=some out):b∈out.rd:=by
 unfold lF at h;simp only at h;rw[bind_some]at h;obtain⟨bx,H,h⟩:=h;rw[bind_some]at h;obtain⟨n,_,h⟩:=h;rw[aA]at h;obtain⟨_,h⟩:=h;split at h
 ·rw[aA]at h;obtain⟨_,h⟩:=h;obtain rfl:=yb h;simp
 ·split at h
  ·rw[aA]at h;obtain⟨_,h⟩:=h;obtain rfl:=yb h;simp
  ·simp at h
 ·rw[bind_some]at h;obtain⟨p,_,h⟩:=h;rw[bind_some]at h;obtain⟨q,_,h⟩:=h;rw[aA]at h;obtain⟨_,h⟩:=h;obtain rfl:=yb h;simp
 ·cases h
theorem Df{x:AV}{b:Nat}(h:Ac x=some b):(∃g,x= .msw b g)\/∃g o n,x= .ms b g o n:=by
 unfold Ac at h;split at h
 ·cases h;exact .inl ⟨_,rfl⟩
 ·cases h;exact .inr ⟨_,_,_,rfl⟩
 ·cases h
theorem R7{t:TypeId}{x:AV}{H M K:Option Int}{b:Nat}(h:iN P t mem x H M K=some out)(J:Ac x=some b):b∈out.rd:=by
 unfold iN at h;rcases Df J with ⟨g,rfl⟩|⟨g,o,n,rfl⟩<;>simp only at h<;>split at h
 ·cases h
 ·rw[bind_some]at h;obtain⟨s,_,h⟩:=h;rw[bind_some]at h;obtain⟨x,_,h⟩:=h;rw[aA]at h;obtain⟨_,h⟩:=h;obtain⟨q,_,rfl⟩:=yf.1 h;simp
 ·rw[bind_some]at h;obtain⟨s,_,h⟩:=h;cases h
 ·cases h
 ·cases h
 ·rw[bind_some]at h;obtain⟨s,_,h⟩:=h;rw[bind_some]at h;obtain⟨x,_,h⟩:=h;rw[aA]at h;obtain⟨_,h⟩:=h;obtain⟨q,_,rfl⟩:=yf.1 h;simp
 ·rw[bind_some]at h;obtain⟨s,_,h⟩:=h;cases h
 ·cases h
theorem RS{t:TypeId}{x:AV}{i:Int}{b:Nat}(h:kG P t mem x i=some out)(H:Ac x=some b):b∈out.rd:=by
 unfold kG at h;rcases Df H with ⟨g,rfl⟩|⟨g,o,n,rfl⟩<;>simp only at h<;>split at h
 ·rw[bind_some]at h;obtain⟨s,_,h⟩:=h;rw[bind_some]at h;obtain⟨x,_,h⟩:=h;rw[aA]at h;obtain⟨_,h⟩:=h;obtain rfl:=yb h;simp
 ·rw[bind_some]at h;obtain⟨s,_,h⟩:=h;cases h
 ·cases h
 ·rw[bind_some]at h;obtain⟨s,_,h⟩:=h;rw[bind_some]at h;obtain⟨x,_,h⟩:=h;rw[aA]at h;obtain⟨_,h⟩:=h;obtain rfl:=yb h;simp
 ·rw[bind_some]at h;obtain⟨s,_,h⟩:=h;cases h
 ·cases h
theorem Pl{boxed vars:Bool}{t J:TypeId}{rs:Nat}{x y:AV}{b:Nat}(h:j8 P boxed vars t J mem rs x y=some out)(O:Ac x=some b):b∈out.rd:=by
 unfold j8 at h;rw[bind_some]at h;obtain⟨et,K,h⟩:=h;rw[bind_some]at h;obtain⟨s,hs,h⟩:=h;rw[bind_some]at h;obtain⟨bytes,N,h⟩:=h;rw[bind_some]at h;obtain⟨z,hz,h⟩:=h;rw[bind_some]at h;obtain⟨yv,M,h⟩:=h;rw[aA]at h;obtain⟨_,h⟩:=h;rcases Df O with ⟨g,H⟩|⟨g,o,n,H⟩<;>subst H<;>try simp only at h
 ·rw[bind_some]at h;obtain⟨x,_,h⟩:=h;rw[bind_some]at h;obtain⟨x,_,h⟩:=h;rw[aA]at h;obtain⟨_,h⟩:=h;obtain rfl:=yb h;simp
 ·rw[bind_some]at h;obtain⟨x,_,h⟩:=h;rw[bind_some]at h;obtain⟨x,_,h⟩:=h;rw[bind_some]at h;obtain⟨x,_,h⟩:=h;rw[aA]at h;obtain⟨_,h⟩:=h;obtain rfl:=yb h;simp
theorem WA{own:Bool}{o:Oper}{ρ:Operand->Option AV}{rs:Nat}(h:J1 P own false o ρ mem rs=some out)(hA:Ag out.rd mem mem'):
  J1 P own false o ρ mem' rs=some out/\(b7 own ρ mem o.op=true->b7 own ρ mem' o.op=true):=by
 unfold J1 at h⊢
 split at h<;>rename_i K
 ·exact⟨h,λJ=>by rw[K]at J⊢;exact J⟩
 ·exact⟨h,λJ=>by rw[K]at J⊢;exact J⟩
 ·exact⟨h,λJ=>by rw[K]at J⊢;exact J⟩
 ·exact⟨h,λJ=>by rw[K]at J⊢;exact J⟩
 ·rw[bind_some]at h;obtain⟨a,Y,h⟩:=h;obtain⟨O,N⟩:=NS h hA;refine⟨by simp only[Y,ya];exact O,λJ=>?_⟩;rw[K]at J⊢
  simp only[b7]at J⊢
  rw[kR (p:=LI mem) Y (Hz λb g i c M=>hA b (N b g i c M))];exact J
 ·rw[bind_some]at h;obtain⟨a,Y,h⟩:=h;rw[bind_some]at h;obtain⟨x,U,h⟩:=h;obtain⟨O,N⟩:=Ru h hA;refine⟨by simp only[Y,U,ya];exact O,λJ=>?_⟩;rw[K]at J⊢
  simp only[b7]at J⊢
  rw[kR (p:=LI mem) Y (Hz λb g i c M=>hA b (N b g i c M))];exact J
 ·rw[bind_some]at h;obtain⟨x,U,h⟩:=h;rw[bind_some]at h;obtain⟨lo,hlo,h⟩:=h;rw[bind_some]at h;obtain⟨J,hhi,h⟩:=h;rw[bind_some]at h;obtain⟨mx,hmx,h⟩:=h;obtain⟨O,N⟩:=SE h hA;refine⟨by simp only[U,hlo,hhi,hmx,ya];exact O,λJ=>?_⟩;rw[K]at J⊢
  simp only[b7]at J⊢
  rw[kR (p:=BZ mem) U (AR λb M=>hA b (N b M))];exact J
 ·rw[bind_some]at h;obtain⟨x,U,h⟩:=h;rw[bind_some]at h;obtain⟨ix,hix,h⟩:=h;split at h
  ·obtain⟨O,N⟩:=Sn h hA;refine⟨by simp only[U,hix,ya];exact O,λJ=>?_⟩;rw[K]at J⊢
   simp only[b7]at J⊢
   rw[kR (p:=BZ mem) U (AR λb M=>hA b (N b M))];exact J
  ·cases h
 ·rename_i c;obtain⟨cal,args,ts⟩:=c;rw[bind_some]at h;obtain⟨as,H,h⟩:=h;simp only at h H K;split at h
  ·rename_i b;unfold oI at h;split at h
   ·rename_i t x V;obtain⟨O,N⟩:=UX h hA;refine⟨by simp only[H,ya,oI,V];exact O,λJ=>?_⟩;rw[K]at J⊢
    simp only[b7]at J⊢
    cases W:args.toList with
    |nil=>rw[W]at H;cases H
    |cons a0 l0=>
     rw[W]at J H;cases l0 with
     |cons _ _=>cases J
     |nil=>
      simp only[qT]at H;rw[bind_some]at H;obtain⟨v,Z,H⟩:=H;simp at H;subst H;simp only at J⊢
      rw[kR (p:=L0 mem) Z (QV λb g M=>hA b (N b g M))];exact J
   ·rename_i t tx x y V;obtain⟨O,N⟩:=QB h hA;refine⟨by simp only[H,ya,oI,V];exact O,λJ=>?_⟩;rw[K]at J⊢
    simp only[b7]at J⊢
    cases W:args.toList with
    |nil=>rw[W]at H;cases H
    |cons a0 l0=>
     rw[W]at J H;cases l0 with
     |nil=>cases J
     |cons a1 l1=>
      cases l1 with
      |cons _ _=>cases J
      |nil=>
       simp only[qT]at H;rw[bind_some]at H;obtain⟨v,Z,H⟩:=H;obtain⟨l,hl',H⟩:=yf.1 H;simp only[List.cons.injEq]at H;obtain⟨rfl,_⟩:=H;simp only at J⊢
       rw[kR (p:=BZ mem) Z (AR λb M=>hA b (N b M))];exact J
   ·cases h
  ·cases h
 ·cases h
theorem MQ{boxed vars:Bool}{ts:List TypeId}{rs b g:Nat}(h:eZ P boxed vars .len ts mem rs [.msw b g]=some out):b∈out.rd:=by
 match ts,h with
 | [t],h=>
  have h:(lenOf P t mem (.msw b g)).map (λn=>({v:= .lit (.int .i64 (n.1:Int)),rd:=n.2}:dY))=some out:=h;obtain⟨n,hn,rfl⟩:=yf.1 h;unfold lenOf at hn;split at hn
  ·cases hn
  ·simp only at hn;obtain⟨x,_,rfl⟩:=yf.1 hn;simp
  ·cases hn
 | [],h=>cases h
 |_::_::_,h=>cases h
theorem I6{boxed vars:Bool}{ts:List TypeId}{rs b:Nat}{x y:AV}(h:eZ P boxed vars .append ts mem rs [x,y]=some out)(H:Ac x=some b):b∈out.rd:=by
 match ts,h with
 | [t,J],h=>
  have h:j8 P boxed vars t J mem rs x y=some out:=by
   rcases Df H with ⟨g,rfl⟩|⟨g,o,n,rfl⟩<;>exact h
  exact Pl h H
 | [],h=>cases x<;>cases y<;>cases h
 | [_],h=>cases x<;>cases y<;>cases h
 |_::_::_::_,h=>cases x<;>cases y<;>cases h
theorem Wm{C:cC}{own boxed raw vars:Bool}{o:Oper}{ρ:Operand->Option AV}{rs:Nat}(hl:oB o=true->mem'.length=mem.length)(h:Kf P C own false boxed raw vars o ρ mem rs=some out)(hA:Ag out.rd mem mem'):
  Kf P C own false boxed raw vars o ρ mem' rs=some out:=by
 unfold Kf at h⊢
 cases U:b7 own ρ mem o.op with
 |true=>
  rw[U]at h;simp only[yh]at h;obtain⟨h1,Z⟩:=WA h hA;rw[Z U];exact h1
 |false=>
  rw[U]at h;simp only[yg]at h;have h':=Wj hl h hA;have:b7 own ρ mem' o.op=false:=by
   rw[<-U];unfold Ra AS A6 AH Fp at h;split at h<;>rename_i N<;>first|(cases h;done)|(rw[N];try rfl)
   ·rw[bind_some]at h;obtain⟨a,W,h⟩:=h;exact kR (p:=LI mem) W (Hz λb g i c K=>hA b (by subst K;exact Oc h))
   ·rw[bind_some]at h;obtain⟨a,W,h⟩:=h;rw[bind_some]at h;obtain⟨x,O,h⟩:=h;exact kR (p:=LI mem) W (Hz λb g i c K=>hA b (by subst K;exact R8 h))
   ·rw[bind_some]at h;obtain⟨x,O,h⟩:=h;rw[bind_some]at h;obtain⟨lo,hlo,h⟩:=h;rw[bind_some]at h;obtain⟨hi,hhi,h⟩:=h;rw[bind_some]at h;obtain⟨mx,hmx,h⟩:=h;exact kR (p:=BZ mem) O (AR λb K=>hA b (R7 h K))
   ·rw[bind_some]at h;obtain⟨x,O,h⟩:=h;rw[bind_some]at h;obtain⟨ix,hix,h⟩:=h;split at h
    ·exact kR (p:=BZ mem) O (AR λb K=>hA b (RS h K))
    ·cases h
   ·rename_i c;obtain⟨Y,args,ts⟩:=c;rw[bind_some]at h;obtain⟨as,H,h⟩:=h;simp only at h H N⊢
    simp only[b7];split
    ·rename_i x M;rw[M]at H;simp only[qT]at H;rw[bind_some]at H;obtain⟨v,V,H⟩:=H;simp at H;subst H;exact kR (p:=L0 mem) V (QV λb g K=>hA b (by subst K;exact MQ h))
    ·rename_i x y M;rw[M]at H;simp only[qT]at H;rw[bind_some]at H;obtain⟨v,V,H⟩:=H;obtain⟨l,J,H⟩:=yf.1 H;subst H;congr 1;refine kR (p:=BZ mem) V (AR λb K=>hA b ?_);rw[bind_some]at J;obtain⟨u,hu,J⟩:=J;simp at J;subst J;exact I6 h K
    ·rfl
  rw[this];exact h'
theorem ON{own:Bool}{o:Oper}{ρ ρ':Operand->Option AV}(h: ∀x∈o.op.operands,ρ' x=ρ x):b7 own ρ' mem o.op=b7 own ρ mem o.op:=by
 obtain⟨dst,op,K,JY,J,guard⟩:=o;have ask: ∀{p:AV->Bool} {x:Operand},ρ' x=ρ x->oY ρ' p x=oY ρ p x:=λh=>by unfold oY;rw[h]
 cases op<;>simp only[Op.operands]at h<;>simp only[b7]
 case load t a=>exact ask (h a (by simp))
 case store t a x=>exact ask (h a (by simp))
 case slice t x lo hi mx=>exact ask (h x (by simp))
 case indexAddr t x ix=>exact ask (h x (by simp))
 case call c=>
  obtain⟨M,args,ts⟩:=c;simp only[Call.operands]at h;simp only;split
  ·rename_i x H;exact ask (h x (Array.mem_append.2 (.inr (by rw[<-Array.mem_toList_iff,H];simp))))
  ·rename_i x y H;rw[ask (h x (Array.mem_append.2 (.inr (by rw[<-Array.mem_toList_iff,H];simp))))]
  ·rfl
theorem VC{own tk:Bool}{o:Oper}{ρ ρ':Operand->Option AV}{rs:Nat}(h: ∀x∈o.op.operands,ρ' x=ρ x):J1 P own tk o ρ' mem rs=J1 P own tk o ρ mem rs:=by
 obtain⟨dst,op,M,JY,K,guard⟩:=o;cases op<;>simp only[Op.operands]at h<;>simp only[J1,FB,Kh]
 case buildSlice t n ps=>rw[pH (λx J=>h x (by simpa using J))]
 case slice t x lo hi mx=>
  rw[h x (by simp),nF (x:=lo) λy H=>h y (by simp[H]),nF (x:=hi) λy H=>h y (by simp[H]),nF (x:=mx) λy H=>h y (by simp[H])]
 case call c=>
  obtain⟨N,args,ts⟩:=c;simp only[Call.operands]at h;rw[qI (xs:=args.toList) λx J=>h x (by simp at J⊢;exact .inr J)]
 all_goals (first|rfl|(simp_all;done))
theorem VM{C:cC}{own tk boxed raw vars:Bool}{o:Oper}{ρ ρ':Operand->Option AV}{rs:Nat}(h: ∀x∈o.op.operands,ρ' x=ρ x):Kf P C own tk boxed raw vars o ρ' mem rs=Kf P C own tk boxed raw vars o ρ mem rs:=by
 unfold Kf;rw[ON h,VC h,Vz h]
end
end Go.Ab
end
section
namespace Go.Ab
variable [cS]
structure lY where
 v:AV
 wr:List (Nat×bV)
 push:aO
 tr:Option Tr
noncomputable def lY.app(e:lY)(dst:Option Tmp)(st:St):St:={tmps:=pO st.tmps dst e.v,mem:=aR st.mem e.wr++e.push}
section
variable {P:Program}
inductive mK (P:Program) (C:cC) (an:o5) (rid:Nat) (ops:Array Oper) (o:Oper) (i rs:Nat) (st:St):lY->Prop
 |run (out:dY) (hres:eR o.op=true->Bw st.mem rs=true) (h:Kf P C (bP rid i an.own) false (bP rid i an.boxed) (bP rid i an.raw) (bP rid i an.vars) o (cN st.tmps) st.mem rs=some out)
   (hg: ∀j want,o.guard=some (j,want)->∃d,(ops[j]?).bind (·.dst)=some d/\st.tmps[d]?=some (.lit (.bool want))):
   mK P C an rid ops o i rs st {v:=out.v,wr:=out.wr,push:=out.push,tr:=some (out.tr (eR o.op) rs i o.op st.mem)}
 |skip (j:Nat) (want:Bool) (d:Nat) (hg:o.guard=some (j,want)) (hd:(ops[j]?).bind (·.dst)=some d)
   (h:st.tmps[d]?=some (.lit (.bool (!want)))\/∃x,st.tmps[d]?=some (.lit (.tuple x))):mK P C an rid ops o i rs st {v:= .lit undef,wr:= [],push:= [],tr:=none}
theorem Same.eq{st H:St}(h:H.mem=st.mem/\∀t:Nat,H.tmps[t]?=st.tmps[t]?):H=st:=by
 obtain⟨t1,m1⟩:=H;obtain⟨t,m⟩:=st;simp only at h;obtain⟨rfl,h⟩:=h;rw[yg4 h]
variable {C:cC} {an:o5} {rid:Nat} {ops:Array Oper}
theorem yX.two{o:Oper}{i rs:Nat}{st K:St}{t:Option Tr}(h:yX P C an false rid ops o i rs st K t): ∃e,mK P C an rid ops o i rs st e/\e.tr=t/\K=e.app o.dst st:=by
 cases h with
 |run out O H J V N=>
  obtain rfl:=Same.eq H;exact⟨_,.run out J V N,rfl,rfl⟩
 |skip O H j M d N U h=>
  obtain rfl:=Same.eq H;exact⟨_,.skip j M d N U h,rfl,by simp[lY.app,aR]⟩
theorem mK.one{o:Oper}{i rs:Nat}{st:St}{e:lY}(h:mK P C an rid ops o i rs st e):yX P C an false rid ops o i rs st (e.app o.dst st) e.tr:=by
 cases h with
 |run out H M K=>exact .run out st ⟨rfl,λ_=>rfl⟩ H M K
 |skip j J d K N h=>
  have:=yX.skip (P:=P) (C:=C) (an:=an) (tk:=false) (rid:=rid) (ops:=ops) (o:=o) (i:=i) (rs:=rs) (st:=st) st ⟨rfl,λ_=>rfl⟩ j J d K N h;simpa[lY.app,aR]using this
def T9(ops:Array Oper)(o:Oper)(d:Nat):Prop:=d∈o.looksAt ops
def Wh(L:Nat)(all:List Tr)(e:lY)(b:Nat):Prop:= ∃t,e.tr=some t/\(b∈(J0 L all t).rd\/b∈t.wr)
def AA(S F:Nat->Prop)(st st':St):Prop:=(∀d:Nat,S d->st'.tmps[d]?=st.tmps[d]?)/\(∀b:Nat,F b->st'.mem[b]?=st.mem[b]?)
theorem MV{v:AV}{q:Nat×Nat×Nat×Nat}(h:q6 v=some q):v= .ptr q.1 q.2.1 q.2.2.1 q.2.2.2:=by
 unfold q6 at h;split at h
 ·cases h;rfl
 ·cases h
theorem Tt{t:TypeId}{mem mem':aO}{a:AV}{out:dY}(h:lI P t mem a=some out)(hp:(q6 out.v).isSome=true){b:Nat}(hb:out.rd= [b])(hc:(bF mem b).isSome=true)(K:bF mem' b=bF mem b):lI P t mem' a=some out:=by
 unfold lI at h⊢
 cases a with
 |ptr b' g i c=>
  simp only at h⊢
  rw[bind_some]at h;obtain⟨bx,H,h⟩:=h;unfold box? at H;split at H
  ·rename_i x hx;have U:Nat.beq x.gen g=true:=by
    cases U:Nat.beq x.gen g with
    |true=>rfl
    |false=>rw[U]at H;cases H
   rw[U]at H;have M:x.row.isOwn=false:=by
    cases M:x.row.isOwn with
    |false=>rfl
    |true=>rw[M]at H;cases H
   rw[M]at H;obtain rfl:=yb (show some x=some bx from H);split at h
   ·rename_i e cs J;rw[bind_some]at h;obtain⟨ag,W,h⟩:=h;cases ag with
    |true=>
     simp only[yh]at h;rw[bind_some]at h;obtain⟨n,_,h⟩:=h;rw[aA]at h;obtain rfl:=(yb h.2)
     simp[q6]at hp
    |false=>
     simp only[yg]at h;obtain⟨v,hv,rfl⟩:=yf.1 h;obtain rfl:b'=b:=by simpa using hb
     obtain⟨q,hq⟩:=Option.isSome_iff_exists.1 hp;have hc1:bF mem b'=some (x.gen,e,cs.map q6):=by unfold bF jY;rw[hx];simp only[J]
     rw[hc1]at K;unfold bF at K;split at K
     ·rename_i x' V;unfold jY at K;split at K
      ·rename_i e' O N;obtain⟨hg',he',hl'⟩:x'.gen=x.gen/\e'=e/\O.map q6=cs.map q6:=by
        have:=yb K;simp only[Prod.mk.injEq]at this;exact this
       unfold box?;rw[V];simp only[hg',U,bC.isOwn,yo2,ya4,yh,ya,N,he',W,yg];have:(O.map q6)[i*e+c]?=some (some q):=by rw[hl',yh1,hv];simp[hq]
       rw[yh1]at this;obtain⟨v',Z,Y⟩:=yf.1 this;rw[Z,yl,MV Y,show v=_ from MV hq]
      ·cases K
     ·cases K
   ·rename_i k xs J;rw[aA]at h;obtain⟨_,h⟩:=h;rw[aA]at h;obtain⟨_,h⟩:=h;obtain⟨y,_,rfl⟩:=yf.1 h;simp[q6]at hp
   ·rename_i β e xs J;rw[bind_some]at h;obtain⟨y,_,h⟩:=h;obtain⟨u,_,rfl⟩:=yf.1 h;obtain rfl:b'=b:=by simpa using hb
    unfold bF jY at hc;rw[hx]at hc;simp only[J]at hc;cases hc
   ·cases h
  ·cases H
 |el β p c=>
  simp only at h;obtain⟨u,_,rfl⟩:=yf.1 h;cases hb
 |_=>cases h
theorem Uz{op:Op}{mem:aO}{v:AV}{rd:List Nat}(h:Rz op mem v rd=true):(∃t a,op= .load t a)/\(q6 v).isSome=true/\∃b,rd= [b]/\(bF mem b).isSome=true:=by
 unfold Rz at h;simp only[yc]at h;obtain⟨⟨J,M⟩,H⟩:=h;refine⟨?_,?_,?_⟩
 ·unfold Ph at J;split at J
  ·exact⟨_,_,rfl⟩
  ·cases J
 ·split at M
  ·rename_i q K;rw[K];rfl
  ·cases M
 ·split at H
  ·rename_i b;refine⟨b,rfl,?_⟩;split at H
   ·rename_i q K;rw[K];rfl
   ·cases H
  ·cases H
theorem Vv{L:Nat}{all:List Tr}{t:Tr}:(J0 L all t).rd=t.rd\/(t.rc=true/\∃b,t.rd= [b]/\P8 L all b=true):=by
 unfold J0;cases hc:(t.rc&&(match t.rd with| [b]=>P8 L all b|_=>false))with
 |false=>left;rfl
 |true=>
  right;simp only[yc]at hc;refine⟨hc.1,?_⟩;have H:=hc.2;split at H
  ·rename_i b J;exact⟨b,J,H⟩
  ·cases H
theorem jO{L:Nat}{all:List Tr}{t:Tr}:(J0 L all t).i=t.i/\(J0 L all t).wr=t.wr/\(J0 L all t).push=t.push:=by
 unfold J0;cases(t.rc&&(match t.rd with| [b]=>P8 L all b|_=>false))<;>exact⟨rfl,rfl,rfl⟩
theorem mK.agree{L:Nat}{all:List Tr}{o:Oper}{i rs:Nat}{st K:St}{e:lY}(h:mK P C an rid ops o i rs st e)(hA:AA (T9 ops o) (Wh L all e) st K)(hl:oB o=true->K.mem.length=st.mem.length)
  (hK: ∀t b,e.tr=some t->P8 L all b=true->t.rc=true->t.rd= [b]->bF K.mem b=bF st.mem b): ∃e',mK P C an rid ops o i rs K e'/\e'.v=e.v/\e'.wr=e.wr/\e'.push=e.push:=by
 have N: ∀{j:Nat} {J:Bool} {d:Nat},o.guard=some (j,J)->(ops[j]?).bind (·.dst)=some d->K.tmps[d]?=st.tmps[d]?:=by
  intro j J d hg Z;refine hA.1 d ?_;unfold T9 Oper.looksAt;rw[hg];refine ye2 _ ?_;simp[Z]
 cases h with
 |run out hres H hg=>
  refine⟨_,.run out (λhm=>?_) ?_ (λj J h=>?_),rfl,rfl,rfl⟩
  ·have:=hres hm;unfold Bw at this⊢
   rw[hA.2 rs ⟨_,rfl,.inr (by simp[dY.tr,hm])⟩];exact this
  ·have h1:Kf P C (bP rid i an.own) false (bP rid i an.boxed) (bP rid i an.raw) (bP rid i an.vars) o (cN st.tmps) K.mem rs=some out:=by
    rcases Vv (L:=L) (all:=all) (t:=out.tr (eR o.op) rs i o.op st.mem)with hrd|⟨hrc,b,V,hcst⟩
    ·exact Wm (mem':=K.mem) hl H (λb V=>hA.2 b ⟨_,rfl,.inl (by rw[hrd];simpa[dY.tr]using V)⟩)
    ·obtain⟨⟨t,a,W⟩,hp,b',hb',M⟩:=Uz (show Rz o.op st.mem out.v out.rd=true from hrc);have V:out.rd= [b]:=V;obtain rfl:b=b':=by rw[V]at hb';simpa using hb'
     have hke:=hK _ b rfl hcst hrc V;have U: ∀{m:aO},(bF m b).isSome=true->yU m b=false:=by
      intro m hm;unfold bF at hm;unfold yU;split at hm
      ·rename_i x Y;unfold jY at hm;split at hm
       ·rename_i e cs hr;simp only[hr];rfl
       ·cases hm
      ·cases hm
     have hno:b7 (bP rid i an.own) (cN st.tmps) st.mem o.op=false/\b7 (bP rid i an.own) (cN st.tmps) K.mem o.op=false:=by
      rw[W];simp only[b7,oY];cases Y:cN st.tmps a with
      |none=>exact⟨rfl,rfl⟩
      |some x=>
       cases x with
       |ptr b2 g2 i2 c2=>
        have hb2:b2=b:=by
         unfold Kf at H;cases how:b7 (bP rid i an.own) (cN st.tmps) st.mem o.op with
         |false=>
          rw[how]at H;simp only[yg]at H;unfold Ra at H;rw[W]at H;simp only at H;rw[bind_some]at H;obtain⟨x,O,H⟩:=H;rw[Y]at O;obtain rfl:=yb O;have:=Oc H;rw[V]at this;simpa using this
         |true=>
          rw[how]at H;simp only[yh]at H;unfold J1 at H;rw[W]at H;simp only at H;rw[bind_some]at H;obtain⟨x,O,H⟩:=H;rw[Y]at O;obtain rfl:=yb O;have:=(NS H (λ_ _=>rfl)).2 b2 g2 i2 c2 rfl;rw[V]at this;simpa using this
        subst hb2;exact⟨U M,U (by rw[hke];exact M)⟩
       |_=>exact⟨rfl,rfl⟩
     unfold Kf at H⊢
     rw[hno.1]at H;rw[hno.2];simp only[yg]at H⊢
     unfold Ra at H⊢
     rw[W]at H⊢
     simp only at H⊢
     rw[bind_some]at H⊢
     obtain⟨x,Y,H⟩:=H;exact⟨x,Y,Tt H hp V M hke⟩
   rw[<-h1];refine VM λx Y=>?_;cases x with
   |tmp t=>
    simp only[cN,He,bH];rw[hA.1 t];unfold T9 Oper.looksAt;exact yc2 _ (List.mem_filterMap.2 ⟨.tmp t,by simpa using Y,rfl⟩)
   |const v=>rfl
   |func f=>rfl
   |global g=>rfl
  ·obtain⟨d,Z,V⟩:=hg j J h;exact⟨d,Z,by rw[N h Z];exact V⟩
 |skip j J d hg Z h=>
  refine⟨_,.skip j J d hg Z ?_,rfl,rfl,rfl⟩;rw[N hg Z];exact h
noncomputable def cZ(D:Nat->Bool):Nat->List (Oper×lY)->St->St
 |_,[],st=>st
 |i,(o,e)::r,st=>cZ D (i+1) r (bif D i then e.app o.dst st else st)
theorem rG{D D':Nat->Bool}: ∀{l:List (Oper×lY)} {i:Nat} {st:St},(∀k,i≤k->k<i+l.length->D k=D' k)->cZ D i l st=cZ D' i l st
 | [],i,st,_=>rfl
 |(o,e)::r,i,st,h=>by
  simp only[cZ];rw[h i (yb1 _) (by simp)];exact rG λk h1 H=>h k (by omega) (by simp at H⊢;omega)
inductive GL (P:Program) (C:cC) (an:o5) (rid:Nat) (ops:Array Oper):Nat->Nat->St->List (Oper×lY)->Prop
 |nil (i rs:Nat) (st:St):GL P C an rid ops i rs st []
 |cons (o:Oper) (e:lY) (r:List (Oper×lY)) (i rs:Nat) (st:St) (h:mK P C an rid ops o i rs st e) (hr:GL P C an rid ops (i+1) (bif eR o.op then rs+1 else rs) (e.app o.dst st) r):
   GL P C an rid ops i rs st ((o,e)::r)
variable {R:Type}
theorem Je{k:St->List Tr->Option R}{r:R}: ∀{rest:List Oper} {i rs:Nat} {st:St} {tr:List Tr},yM P C an false rid (ops.toList.map (·.dst)) rest i rs st tr k=some r->
  ∃l,l.map (·.1)=rest/\GL P C an rid ops i rs st l/\k (cZ (λ_=>true) i l st) ((l.filterMap (·.2.tr)).reverse++tr)=some r
 | [],i,rs,st,tr,h=>⟨[],rfl,.nil i rs st,by simpa[yM,cZ]using h⟩
 |o::rest,i,rs,st,tr,h=>by
  obtain⟨K,t,H,J⟩:=Kk h;obtain⟨e,O,rfl,rfl⟩:=H.two;obtain⟨l,N,hc,M⟩:=Je J;refine⟨(o,e)::l,by simp[N],.cons o e l i rs st O hc,?_⟩;simp only[cZ,yh]
  have:((((o,e)::l).filterMap (·.2.tr)).reverse++tr)=(l.filterMap (·.2.tr)).reverse++(e.tr.toList++tr):=by
   cases ht:e.tr with
   |none=>simp[List.filterMap_cons,ht]
   |some t=>simp[List.filterMap_cons,ht]
  rw[this];exact M
theorem B5{D:Nat->Bool}: ∀{l:List (Oper×lY)} {i:Nat} {st:St},(∀k,i≤k->D k=false)->cZ D i l st=st
 | [],i,st,_=>rfl
 |(o,e)::r,i,st,h=>by
  simp only[cZ,h i (yb1 _),yg];exact B5 λk hk=>h k (by omega)
theorem GL.get: ∀{l:List (Oper×lY)} {i rs:Nat} {st:St} {j:Nat} {o:Oper} {e:lY},GL P C an rid ops i rs st l->l[j]?=some (o,e)->∃H,mK P C an rid ops o (i+j) H (cZ (λk=>Nat.blt k (i+j)) i l st) e
 | [],i,rs,st,j,o,e,_,h=>by simp at h
 |(M,e')::l,i,rs,st,0,o,e,hc,h=>by
  cases hc with
  |cons _ _ _ _ _ _ K hr=>
   simp at h;obtain⟨rfl,rfl⟩:=h;refine⟨rs,?_⟩;rw[B5 (λk hk=>by cases N:Nat.blt k (i+0)with|false=>rfl|true=>simp[Nat.blt]at N;omega)];exact K
 |(M,e')::l,i,rs,st,j+1,o,e,hc,h=>by
  cases hc with
  |cons _ _ _ _ _ _ K hr=>
   obtain⟨H,J⟩:=hr.get (j:=j) (by simpa using h);refine⟨H,?_⟩;rw[show i+1+j=i+(j+1) by omega]at J;simp only[cZ];have:Nat.blt i (i+(j+1))=true:=by simp[Nat.blt]
   rw[this];exact J
theorem SO{m H:aO}{b:Nat}(h:H[b]?=m[b]?): ∀{wr:List (Nat×bV)},(aR H wr)[b]?=(aR m wr)[b]?:=by
 intro wr
 induction wr generalizing m H with
 |nil=>exact h
 |cons q r M=>
  obtain⟨c,x⟩:=q;simp only[aR];refine M ?_;rw[List.getElem?_set,List.getElem?_set];by_cases hc:c=b
  ·subst hc;simp only[if_true];by_cases K:c<m.length
   ·have:c<H.length:=by
     rcases yq2 c H.length with J|J
     ·exact J
     ·rw[yc1 J,ye K]at h;cases h
    rw[if_pos K,if_pos this]
   ·have: ¬c<H.length:=by
     intro J;rw[ye J,yc1 (by omega)]at h;cases h
    rw[if_neg K,if_neg this]
  ·rw[if_neg hc,if_neg hc];exact h
theorem Pd{m:aO}{b:Nat}: ∀{wr:List (Nat×bV)},(∀q∈wr,q.1≠b)->(aR m wr)[b]?=m[b]?:=by
 intro wr
 induction wr generalizing m with
 |nil=>intro _;rfl
 |cons q r H=>
  obtain⟨c,x⟩:=q;intro h;simp only[aR];rw[H (λq J=>h q (yk _ J)),yp (h (c,x) (yn ..))]
theorem O9{m:aO}{c:Nat}{x:Option bV}: ∀{wr:List (Nat×bV)},(∀q∈wr,q.1≠c)->aR (m.set c x) wr=(aR m wr).set c x:=by
 intro wr
 induction wr generalizing m with
 |nil=>intro _;rfl
 |cons q r J=>
  obtain⟨d,y⟩:=q;intro h;simp only[aR];rw[List.set_comm _ _ (λe=>h (d,y) (yn ..) e.symm),J (λq H=>h q (yk _ H))]
theorem M7{m:aO}{a:List (Nat×bV)}: ∀{b:List (Nat×bV)},(∀q∈b,∀J∈a,q.1≠J.1)->aR (aR m a) b=aR (aR m b) a:=by
 intro b
 induction b generalizing m with
 |nil=>intro _;rfl
 |cons q r K=>
  obtain⟨c,x⟩:=q;intro h;simp only[aR];rw[<-K (λq M=>h q (yk _ M)),O9 (λJ H e=>h (c,x) (yn ..) J H e.symm)]
theorem CN{m p:aO}: ∀{wr:List (Nat×bV)},(∀q∈wr,q.1<m.length)->aR (m++p) wr=aR m wr++p:=by
 intro wr
 induction wr generalizing m with
 |nil=>intro _;rfl
 |cons q r H=>
  obtain⟨c,x⟩:=q;intro h;simp only[aR];rw[List.set_append_left _ _ (h (c,x) (yn ..)),H (λq J=>by simpa using h q (yk _ J))]
structure VJ (L:Nat) (d1 d2:Option Tmp) (e1 e2:lY):Prop where
 dst: ∀d,d1=some d->d2≠some d
 wr: ∀q∈e1.wr,∀q'∈e2.wr,q.1≠q'.1
 push:e1.push= []\/e2.push= []
 low1:e1.push≠ []->∀q∈e2.wr,q.1<L
 low2:e2.push≠ []->∀q∈e1.wr,q.1<L
theorem SP{tmps:List AV}{J H:Option Tmp}{K M:AV}(h: ∀d,J=some d->H≠some d):pO (pO tmps J K) H M=pO (pO tmps H M) J K:=by
 cases J with
 |none=>rfl
 |some a=>
  cases H with
  |none=>rfl
  |some b=>simp only[pO,eS];rw[List.set_comm _ _ (λe=>h a rfl (by rw[e]))]
theorem lY.comm{L:Nat}{Y V:Option Tmp}{K J:lY}{st:St}(hm:VJ L Y V K J)(Z:L≤st.mem.length):J.app V (K.app Y st)=K.app Y (J.app V st):=by
 have N:aR (aR st.mem K.wr++K.push) J.wr++J.push=aR (aR st.mem J.wr++J.push) K.wr++K.push:=by
  have H:=M7 (m:=st.mem) (a:=K.wr) (b:=J.wr) (λq M q' W e=>hm.wr q' W q M e.symm);by_cases U:K.push= []
  ·by_cases O:J.push= []
   ·rw[U,O];simp only[ys1];exact H
   ·rw[U];simp only[ys1];rw[CN (m:=aR st.mem J.wr) (λq M=>by rw[cI];exact yn2 (hm.low2 O q M) Z),H]
  ·have O:J.push= []:=hm.push.resolve_left U;rw[O];simp only[ys1];rw[CN (m:=aR st.mem K.wr) (λq M=>by rw[cI];exact yn2 (hm.low1 U q M) Z),H]
 simp only[lY.app,N,SP hm.dst]
end
end Go.Ab
end
section
namespace Go.Ab
variable [cS]
def FK(ops:Array Oper)(D:Nat->Bool):Prop:= ∀(j:Nat) (o:Oper),ops[j]?=some o->∀e∈o.after,Region.binds .any e=true->D j=true->D e.on=true
theorem BQ{acc:List Nat}: ∀{O:List Edge} {i:Nat},(FA acc O).testBit i=true->∃e∈O,Region.binds .any e=true/\(i=e.on\/(acc.getD e.on 0).testBit i=true)
 | [],i,h=>by simp[FA]at h
 |e::r,i,h=>by
  simp only[FA]at h;cases H:Region.binds .any e with
  |true=>
   rw[H]at h;simp only[yh,Nat.testBit_or,yh2]at h;rcases h with (h|h)|h
   ·refine⟨e,yn ..,H,.inl ?_⟩;rw[Nat.testBit_two_pow]at h;exact(of_decide_eq_true h).symm
   ·exact⟨e,yn ..,H,.inr h⟩
   ·obtain⟨K,M,N,J⟩:=BQ h;exact⟨K,yk _ M,N,J⟩
  |false=>
   rw[H]at h;simp only[yg]at h;obtain⟨K,M,N,J⟩:=BQ h;exact⟨K,yk _ M,N,J⟩
theorem zY{i:Nat}: ∀{M:List Edge},Dg i M=true->∀e∈M,Region.binds .any e=true->e.on<i
 | [],_,e,H,_=>by simp at H
 |x::r,h,e,H,K=>by
  simp only[Dg,yc,yh2,yx]at h;rcases yk1.1 H with rfl|H
  ·rcases h.1 with J|J
   ·rw[K]at J;cases J
   ·simp[Nat.blt]at J;omega
  ·exact zY h.2 e H K
theorem rY: ∀{l:List Oper} {i j:Nat} {o:Oper},lK l i=true->l[j]?=some o->Dg (i+j) o.after.toList=true
 | [],i,j,o,_,h=>by simp at h
 |x::r,i,0,o,h,H=>by
  simp only[lK,yc]at h;simp at H;subst H;exact h.1
 |x::r,i,j+1,o,h,H=>by
  simp only[lK,yc]at h;have:=rY (j:=j) h.2 (by simpa using H);rw[show i+(j+1)=i+1+j by omega];exact this
theorem Nq{ops:Array Oper}(hE:lK ops.toList 0=true): ∀{l:List Oper} {acc:List Nat},ops.toList.drop acc.length=l->acc.length≤ops.size->
  (∀j i,j<acc.length->(acc.getD j 0).testBit i=true->i<j/\∀D,FK ops D->D j=true->D i=true)->
  ∀j i,((zZ l acc).getD j 0).testBit i=true->i<j/\j<ops.size/\∀D,FK ops D->D j=true->D i=true
 | [],acc,K,Y,h=>by
  intro j i J;simp only[zZ]at J;by_cases U:j<acc.length
  ·exact⟨(h j i U J).1,by omega,(h j i U J).2⟩
  ·rw[ym,yc1 (by omega)]at J;simp at J
 |o::r,acc,K,Y,h=>by
  simp only[zZ];have Z:ops[acc.length]?=some o:=by
   have:(ops.toList.drop acc.length)[0]?=some o:=by rw[K];rfl
   rw[yg1,ya2,yx1]at this;exact this
  have hlt:acc.length<ops.size:=(yf3.1 Z).1;refine Nq hE (l:=r) (by rw[yi,<-List.drop_drop,K];rfl) (by simp;omega) λj i U J=>?_;by_cases N:j<acc.length
  ·rw[ym,yq N,<-ym]at J;exact h j i N J
  ·have V:j=acc.length:=by simp at U;omega
   subst V;rw[ym,yy (yb1 _)]at J;simp only[Nat.sub_self,yj3,Option.getD_some]at J;obtain⟨e,he,H,W⟩:=BQ J;have O:=zY (by have:=rY (j:=acc.length) hE (by rw[yx1];exact Z);rwa[ye1]at this) e he H;have M: ∀D,FK ops D->D acc.length=true->D e.on=true:=λD hD K=>hD acc.length o Z e (by simpa using he) H K;rcases W with rfl|W
   ·exact⟨O,M⟩
   ·obtain⟨h1,h2⟩:=h e.on i O W;exact⟨by omega,λD hD K=>h2 D hD (M D hD K)⟩
theorem sS{ops:Array Oper}(hE:lK ops.toList 0=true){j i:Nat}(h:((zZ ops.toList []).getD j 0).testBit i=true):i<j/\∀D,FK ops D->D j=true->D i=true:=by
 obtain⟨K,_,H⟩:=Nq hE (l:=ops.toList) (acc:= []) (by simp) (by simp) (λj i J _=>by simp at J) j i h;exact⟨K,H⟩
theorem Ij: ∀{n a j:Nat},a≤j->j<a+n->j∈sF a n
 |0,a,j,J,H=>by omega
 |n+1,a,j,J,H=>by
  simp only[sF];rcases yq2 a j with h|h
  ·exact yk _ (Ij (by omega) (by omega))
  ·obtain rfl:j=a:=by omega
   exact yn ..
theorem CO{ops:Array Oper}{bs:List Nat}{i:Nat}: ∀{l:List Nat},CS ops bs i l=true->∀j∈l,dN bs i j=true\/Ds ops i j=true
 | [],_,j,H=>by simp at H
 |x::r,h,j,H=>by
  simp only[CS,yc,yh2]at h;rcases yk1.1 H with rfl|H
  ·exact h.1
  ·exact CO h.2 j H
theorem wF{ops:Array Oper}{bs:List Nat}: ∀{n a i j:Nat},Di ops bs (sF a n)=true->a≤i->i<j->j<a+n->dN bs i j=true\/Ds ops i j=true
 |0,a,i,j,_,N,H,J=>by omega
 |n+1,a,i,j,h,N,H,J=>by
  simp only[sF,Di,yc]at h;rcases yq2 a i with M|K
  ·exact wF h.2 (by omega) H (by omega)
  ·obtain rfl:i=a:=by omega
   exact CO h.1 j (Ij (by omega) (by omega))
theorem Gn{bs:List Nat}{i:Nat}: ∀{l:List Oper} {s j:Nat} {o:Oper},AU bs i l s=true->l[j]?=some o->i=s+j\/dN bs i (s+j)=true\/oB o=false
 | [],s,j,o,_,h=>by simp at h
 |x::r,s,0,o,h,H=>by
  simp only[AU,yc,yh2,yx]at h;simp at H;subst H;rcases h.1 with (h|h)|h
  ·exact .inl (bZ.1 h)
  ·exact .inr (.inl h)
  ·exact .inr (.inr h)
 |x::r,s,j+1,o,h,H=>by
  simp only[AU,yc]at h;have:=Gn (j:=j) h.2 (by simpa using H);rw[show s+(j+1)=s+1+j by omega];exact this
theorem IA{ops:Array Oper}{bs:List Nat}: ∀{l:List Tr},LD ops bs l=true->∀a∈l,a.push=true->AU bs a.i ops.toList 0=true
 | [],_,a,H,_=>by simp at H
 |x::r,h,a,H,K=>by
  simp only[LD,yc,yh2,yx]at h;rcases yk1.1 H with rfl|H
  ·rcases h.1 with J|J
   ·rw[K]at J;cases J
   ·exact J
  ·exact IA h.2 a H K
structure KN (bs:List Nat) (L:Nat) (a b:Tr):Prop where
 push:dN bs a.i b.i=false->a.push=true->b.push=true->False
 far:dN bs a.i b.i=false->(∀x∈a.wr,x∉b.rd)/\(∀x∈a.rd,x∉b.wr)/\(∀x∈a.wr,x∉b.wr)/\(a.push=true->(∀x∈b.rd,x<L)/\∀x∈b.wr,x<L)/\(b.push=true->(∀x∈a.rd,x<L)/\∀x∈a.wr,x<L)
theorem vC{m:Nat}: ∀{l:List Nat},iH m l=true->∀b∈l,b<m
 | [],_,b,h=>by simp at h
 |x::r,h,b,H=>by
  simp only[iH,yc]at h;rcases yk1.1 H with rfl|H
  ·have:=h.1;simp[Nat.blt]at this;omega
  ·exact vC h.2 b H
theorem Ou{bs:List Nat}{L:Nat}{a:Tr}: ∀{l:List Tr},U7 bs L a l=true->∀b∈l,KN bs L a b
 | [],_,b,h=>by simp at h
 |x::r,h,b,M=>by
  simp only[U7,yc]at h;rcases yk1.1 M with rfl|M
  ·refine⟨λU N K=>by have:=h.1;rw[U,N,K]at this;simp at this,λU=>?_⟩;have:=h.1;rw[U]at this;simp only[yb4,yc,yh2,yx]at this;obtain⟨⟨⟨⟨⟨_,N⟩,K⟩,V⟩,H⟩,J⟩:=this;refine⟨AT N,AT K,AT V,λO=>?_,λO=>?_⟩
   ·rcases H with H|H
    ·rw[O]at H;cases H
    ·exact⟨vC H.1,vC H.2⟩
   ·rcases J with J|J
    ·rw[O]at J;cases J
    ·exact⟨vC J.1,vC J.2⟩
  ·exact Ou h.2 b M
theorem Aw{bs:List Nat}{L:Nat}: ∀{l:List Tr},Rp bs L l=true->l.Pairwise (KN bs L)
 | [],_=> .nil
 |a::r,h=>by
  simp only[Rp,yc]at h;exact .cons (Ou h.1) (Aw h.2)
theorem pM{bs:List Nat}{i j:Nat}:dN bs i j=dN bs j i:=by unfold dN;rw[Bool.or_comm]
theorem KN.symm{bs:List Nat}{L:Nat}{a b:Tr}(h:KN bs L a b):KN bs L b a:=
 ⟨λM N K=>h.push (by rw[pM];exact M) K N,λM=>by
  obtain⟨N,K,O,U,V⟩:=h.far (by rw[pM];exact M)
  exact⟨λx J H=>K x H J,λx J H=>N x H J,λx J H=>O x H J,V,U⟩⟩
section
variable {P:Program} {C:cC} {an:o5} {rid:Nat} {ops:Array Oper}
theorem mK.facts{o:Oper}{i rs:Nat}{st:St}{e:lY}(h:mK P C an rid ops o i rs st e):
  (∀q∈e.wr,∃t,e.tr=some t/\q.1∈t.wr)/\(e.push≠ []->∃t,e.tr=some t/\t.push=true)/\(∀t,e.tr=some t->t.i=i):=by
 cases h with
 |run out K ho N=>
  refine⟨λq H=>⟨_,rfl,?_⟩,λJ=>⟨_,rfl,?_⟩,λt ht=>?_⟩
  ·simp only[dY.tr];cases eR o.op with
   |true=>simp only[yh];exact yk _ (yl3.2 ⟨q,H,rfl⟩)
   |false=>simp only[yg];exact yl3.2 ⟨q,H,rfl⟩
  ·show(match out.push with| []=>false|_=>true)=true
   split
   ·rename_i O;exact absurd O J
   ·rfl
  ·cases ht;rfl
 |skip j M d N hd h=>exact⟨λq H=>by simp at H,λJ=>absurd rfl J,λt ht=>by cases ht⟩
structure Hj (S F:Nat->Prop) (L:Nat) (o:Oper) (e:lY):Prop where
 dst: ∀d,o.dst=some d->¬S d
 wr: ∀q∈e.wr,¬F q.1
 push:e.push≠ []->∀b,F b->b<L
theorem nQ(e:lY)(d:Option Tmp)(st:St):(e.app d st).mem.length=st.mem.length+e.push.length:=by simp[lY.app,cI]
theorem AA.symm{S F:Nat->Prop}{st H:St}(h:AA S F st H):AA S F H st:=⟨λd K=>(h.1 d K).symm,λb J=>(h.2 b J).symm⟩
theorem K0{S F:Nat->Prop}{L:Nat}{o:Oper}{e:lY}{st H:St}(h:AA S F st H)(hn:Hj S F L o e)(V:L≤H.mem.length):AA S F st (e.app o.dst H):=by
 refine⟨λd N=>?_,λb M=>?_⟩
 ·rw[<-h.1 d N];simp only[lY.app];cases K:o.dst with
  |none=>rfl
  |some t=>
   simp only[pO,eS];exact yp (λe=>hn.dst t K (by rw[e];exact N))
 ·rw[<-h.2 b M];simp only[lY.app];have J:(aR H.mem e.wr)[b]?=H.mem[b]?:=Pd λq U e=>hn.wr q U (by rw[e];exact M);by_cases O:e.push= []
  ·rw[O,ys1];exact J
  ·rw[yq (by rw[cI];exact yn2 (hn.push O b M) V)];exact J
theorem O5{S F:Nat->Prop}{d:Option Tmp}{e:lY}{st H:St}(h:AA S F st H)(J:e.push≠ []->H.mem.length=st.mem.length):AA S F (e.app d st) (e.app d H):=by
 refine⟨λt ht=>?_,λb U=>?_⟩
 ·simp only[lY.app];cases d with
  |none=>exact h.1 t ht
  |some d=>
   simp only[pO,eS];have:=h.1 t ht;rw[List.getElem?_set,List.getElem?_set];by_cases N:d=t
   ·subst N;simp only[if_true];by_cases J:d<st.tmps.length
    ·have K:d<H.tmps.length:=by
      rcases yq2 d H.tmps.length with K|K
      ·exact K
      ·rw[yc1 K,ye J]at this;cases this
     rw[if_pos J,if_pos K]
    ·have K: ¬d<H.tmps.length:=by
      intro K;rw[ye K,yc1 (Nat.le_of_not_lt J)]at this;cases this
     rw[if_neg J,if_neg K]
   ·rw[if_neg N,if_neg N];exact this
 ·simp only[lY.app];have hs:(aR H.mem e.wr)[b]?=(aR st.mem e.wr)[b]?:=SO (h.2 b U);by_cases O:e.push= []
  ·rw[O,ys1,ys1];exact hs
  ·have J:=J O;by_cases M:b<st.mem.length
   ·rw[yq (by rw[cI,J];exact M),yq (by rw[cI];exact M)];exact hs
   ·rw[yy (by rw[cI,J];omega),yy (by rw[cI];omega),cI,cI,J]
def Fa(D:Nat->Bool)(i:Nat)(l:List (Oper×lY)):Prop:= ∀(k k':Nat) (q q':Oper×lY),k<k'->l[k]?=some q->l[k']?=some q'->q.2.push≠ []->q'.2.push≠ []->D (i+k')=true->D (i+k)=true
theorem Fa.tail{D:Nat->Bool}{i:Nat}{q:Oper×lY}{l:List (Oper×lY)}(h:Fa D i (q::l)):Fa D (i+1) l:=λk H p M hk O J U K N=>by
 have:=h (k+1) (H+1) p M (by omega) (by simpa using O) (by simpa using J) U K (by rw[show i+(H+1)=i+1+H by omega];exact N);rwa[show i+(k+1)=i+1+k by omega]at this
theorem p5{S F:Nat->Prop}{L:Nat}{D D':Nat->Bool}: ∀{l:List (Oper×lY)} {i:Nat} {st H:St},L≤st.mem.length->L≤H.mem.length->
  (st.mem.length=H.mem.length\/∀(k:Nat) (q:Oper×lY),l[k]?=some q->q.2.push≠ []->D (i+k)=false\/D' (i+k)=false)->Fa D i l->Fa D' i l->
  (∀k o e,l[k]?=some (o,e)->D (i+k)≠D' (i+k)->Hj S F L o e)->AA S F st H->AA S F (cZ D i l st) (cZ D' i l H)
 | [],i,st,H,_,_,_,_,_,_,h=>h
 |(o,e)::r,i,st,H,hl,U,Z,hc,N,hn,h=>by
  simp only[cZ];have W: ∀k o' e',r[k]?=some (o',e')->D (i+1+k)≠D' (i+1+k)->Hj S F L o' e':=λk o' e' O hne=>hn (k+1) o' e' (by simpa using O) (by rw[show i+(k+1)=i+1+k by omega];exact hne);have up: ∀{s:St},L≤s.mem.length->L≤(e.app o.dst s).mem.length:=λh=>by rw[nQ];omega
  have Y:(∀(k:Nat) (q:Oper×lY),((o,e)::r)[k]?=some q->q.2.push≠ []->D (i+k)=false\/D' (i+k)=false)->∀(k:Nat) (q:Oper×lY),r[k]?=some q->q.2.push≠ []->D (i+1+k)=false\/D' (i+1+k)=false:=by
   intro hh k q O K;have:=hh (k+1) q (by simpa using O) K;rwa[show i+(k+1)=i+1+k by omega]at this
  have later:D i=false->e.push≠ []->∀(k:Nat) (q:Oper×lY),r[k]?=some q->q.2.push≠ []->D (i+1+k)=false:=by
   intro hd K k q O J;cases hdk:D (i+1+k)with
   |false=>rfl
   |true=>
    have:=hc 0 (k+1) (o,e) q (by omega) rfl (by simpa using O) K J (by rw[show i+(k+1)=i+1+k by omega];exact hdk);rw[ya2,hd]at this;cases this
  have V:D' i=false->e.push≠ []->∀(k:Nat) (q:Oper×lY),r[k]?=some q->q.2.push≠ []->D' (i+1+k)=false:=by
   intro hd K k q O J;cases hdk:D' (i+1+k)with
   |false=>rfl
   |true=>
    have:=N 0 (k+1) (o,e) q (by omega) rfl (by simpa using O) K J (by rw[show i+(k+1)=i+1+k by omega];exact hdk);rw[ya2,hd]at this;cases this
  cases hD:D i with
  |true=>
   cases M:D' i with
   |true=>
    have hlen:e.push≠ []->H.mem.length=st.mem.length:=by
     intro K;rcases Z with Z|Z
     ·exact Z.symm
     ·rcases Z 0 (o,e) rfl K with h|h
      ·rw[ya2,hD]at h;cases h
      ·rw[ya2,M]at h;cases h
    refine p5 (up hl) (up U) (Z.imp (λh=>?_) Y) hc.tail N.tail W (O5 h hlen);simp only[yh,nQ,h]
   |false=>
    have hnt:=hn 0 o e rfl (by rw[ya2,hD,M];simp);refine p5 (up hl) U ?_ hc.tail N.tail W (K0 h.symm hnt hl).symm;by_cases K:e.push= []
    ·refine Z.imp (λh=>?_) Y;simp only[yh,yg,nQ,K,yz2,ya2,h]
    ·exact .inr λk q O J=> .inr (V M K k q O J)
  |false=>
   cases M:D' i with
   |true=>
    have hnt:=hn 0 o e rfl (by rw[ya2,hD,M];simp);refine p5 hl (up U) ?_ hc.tail N.tail W (K0 h hnt U);by_cases K:e.push= []
    ·refine Z.imp (λh=>?_) Y;simp only[yh,yg,nQ,K,yz2,ya2,h]
    ·exact .inr λk q O J=> .inl (later hD K k q O J)
   |false=>exact p5 hl U (Z.imp id Y) hc.tail N.tail W h
theorem QP{D:Nat->Bool}: ∀{l:List (Oper×lY)} {i:Nat} {st:St},st.mem.length≤(cZ D i l st).mem.length
 | [],i,st=>yb1 _
 |(o,e)::r,i,st=>by
  simp only[cZ];refine yv2 ?_ (QP (l:=r));cases D i with
  |true=>simp only[yh,nQ];omega
  |false=>exact yb1 _
theorem Nv{D D':Nat->Bool}: ∀{l:List (Oper×lY)} {i:Nat} {st H:St},H.mem.length=st.mem.length->(∀k o e,l[k]?=some (o,e)->e.push≠ []->D (i+k)=D' (i+k))->(cZ D' i l H).mem.length=(cZ D i l st).mem.length
 | [],i,st,H,h,_=>h
 |(o,e)::r,i,st,H,h,hn=>by
  simp only[cZ];refine Nv ?_ (λk N K M J=>by have:=hn (k+1) N K (by simpa using M) J;rwa[show i+(k+1)=i+1+k by omega]at this);by_cases J:e.push= []
  ·cases D i<;>cases D' i<;>simp only[yh,yg,nQ,J,yz2,ya2]<;>exact h
  ·have:=hn 0 o e rfl J;rw[ya2]at this;rw[this];cases D' i<;>simp only[yh,yg,nQ,h]
theorem wT{D:Nat->Bool}: ∀{a b:List (Oper×lY)} {i:Nat} {st:St},cZ D i (a++b) st=cZ D (i+a.length) b (cZ D i a st)
 | [],b,i,st=>rfl
 |(o,e)::a,b,i,st=>by
  simp only[yo3,cZ,yw];rw[wT,show i+1+a.length=i+(a.length+1) by omega]
theorem HL{L:Nat}{D:Nat->Bool}{e:lY}{d:Option Tmp}: ∀{l:List (Oper×lY)} {i:Nat} {st:St},L≤st.mem.length->
  (∀k O K,l[k]?=some (O,K)->D (i+k)=true->VJ L d O.dst e K)->cZ D i l (e.app d st)=e.app d (cZ D i l st)
 | [],i,st,_,_=>rfl
 |(O,K)::r,i,st,U,hm=>by
  simp only[cZ];have J: ∀k N M,r[k]?=some (N,M)->D (i+1+k)=true->VJ L d N.dst e M:=λk N M W V=>hm (k+1) N M (by simpa using W) (by rw[show i+(k+1)=i+1+k by omega];exact V);cases hD:D i with
  |true=>
   simp only[yh];have H:=hm 0 O K rfl (by rw[ya2];exact hD);rw[lY.comm H U];exact HL (L:=L) (by rw[nQ];omega) J
  |false=>
   simp only[yg];exact HL (L:=L) U J
end
end Go.Ab
end
