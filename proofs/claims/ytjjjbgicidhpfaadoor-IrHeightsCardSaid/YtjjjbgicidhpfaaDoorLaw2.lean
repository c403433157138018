/- Plain laws. -/
import Derived.Test.YtjjjbgicidhpfaaDoorLaw1
import Derived.Test.YtjjjbgicidhpfaaDoorLib34
set_option linter.unusedVariables false
set_option linter.unusedSimpArgs false
section
namespace Sx
open Go Go.Ab
theorem kZ{mp:List bT}{k:Nat}{v:bT}{H:List cQ}(K:mp[k]?=some v)(M:v.1=true)(J:bO H v.2=true):dI mp H (k:Int)=true:=by
 unfold dI;rw[aE,K];simp only[M,J,yj1]
theorem CQ{m:aX}{f:gH}{sh:List bT}{pc:Nat}{x:bT}{i:BL}(J:sh[pc]?=some x)(K:f.2.2.2.2[pc]?=some i)(h8:x.2.length≤8)
  (h:x.1=true->(bL m f i (pc:Int) x.2).2.2=0/\∀t∈(bL m f i (pc:Int) x.2).2.1,dI sh (bL m f i (pc:Int) x.2).1 t=true):sU m f sh pc=true:=by
 unfold sU;rw[J,K];show I8 m f sh i (pc:Int) x=true;unfold I8;rw[decide_eq_false (by omega),yo2,yq1];cases H:x.1 with
 |false=>rfl
 |true=>
  rw[yf1,yb4,yc,ya1,beq_iff_eq];exact h H
theorem OJ{x y z:cQ}(J:fS x z=true)(H:fS y z=true):fS (dQ x y) z=true:=by
 unfold dQ;by_cases a:fS x y=true
 ·rw[if_pos a];exact H
 ·rw[if_neg a];by_cases b:fS y x=true
  ·rw[if_pos b];exact J
  ·rw[if_neg b];rcases(eW x z).1 J with rfl|K|⟨r1,O,U⟩
   ·exact absurd H b
   ·split<;>exact(eW _ _).2 (.inr (.inl K))
   ·rcases(eW y z).1 H with rfl|K|⟨N,s2,s3⟩
    ·exact absurd J a
    ·split<;>exact(eW _ _).2 (.inr (.inl K))
    ·have M:x.1≠6:=λe=>a ((eW x y).2 (.inr (.inr ⟨r1,N,.inl e⟩)));have V:z.1=7:=U.resolve_left M;rw[if_pos ⟨r1,N⟩];exact(eW _ _).2 (.inr (.inr ⟨rfl,O,.inr V⟩))
theorem zR: ∀{s a r:List cQ},bO s r=true->bO a r=true->bO (dR s a) r=true
 | [],[],[],_,_=>rfl
 |x::s,y::a,z::r,K,H=>by
  rw[oD,yc]at K H;show bO (dQ x y::dR s a) (z::r)=true;rw[oD,OJ K.1 H.1,zR K.2 H.2];rfl
 | [],[],_::_,h,_=>by have:=d9 h;simp at this
 | [],_::_,r,h,J=>by have:=d9 h;have:=d9 J;simp at *;omega
 |_::_,[],r,h,J=>by have:=d9 h;have:=d9 J;simp at *;omega
 |_::_,_::_,[],h,_=>by have:=d9 h;simp at this
def BO(sh:List bT)(q:List Int)(k:Nat)(x:bT)(a:List cQ):Option (List bT×List Int):=
 if x.1=false then some (sh.set k (true,a),q++ [(k:Int)])else
 if x.2.length≠a.length then none else
 if dR x.2 a=x.2 then some (sh,q)else some (sh.set k (true,dR x.2 a),q++ [(k:Int)])
def jV(sh:List bT):Prop:= ∀x∈sh,x.1=false->x.2= []
theorem jV.put{sh:List bT}(h:jV sh)(k:Nat){v:bT}(M:v.1=true):jV (sh.set k v):=λx J H=>by
 rcases ym2 J with K|rfl
 ·exact h x K H
 ·rw[M]at H;cases H
structure Wf (L:Nat) (a:List cQ) (sh:List bT) (q:List Int) (ks:List Int) (sh':List bT) (q':List Int):Prop where
 inv:pI L sh'
 le:lP sh sh'
 nxt: ∀t∈ks,dI sh' a t=true
 same: ∀j:Nat,(j:Int)∈q'\/sh'[j]?=sh[j]?
 sub: ∀t∈q,t∈q'
 new: ∀t∈q',t∈q\/t∈ks
 pot:q'.length+mu sh≤q.length+mu sh'
 nil:jV sh->jV sh'
theorem Up{L:Nat}{sh:List bT}{q:List Int}{k:Nat}{x:bT}{a:List cQ}(hI:pI L sh)(M:sh[k]?=some x)(Y:Hd a)(h8:a.length≤8){r:List bT×List Int}(h:BO sh q k x a=some r):
  Wf L a sh q [(k:Int)] r.1 r.2:=by
 unfold BO at h;have W:=hI.all x (yj M);have put: ∀v:bT,v.1=true->Hd v.2->v.2.length≤8->(x.1=true->bO x.2 v.2=true)->R4 x<R4 v->bO a v.2=true->Wf L a sh q [(k:Int)] (sh.set k v) (q++ [(k:Int)]):=by
  intro v H hv O hb V U;obtain⟨g1,g2,g3⟩:=JQ hI M hv O H hb V false;refine⟨g1,g2.le,λt ht=>?_,λj=>?_,λt ht=>yc2 _ ht,λt ht=>yr1.1 ht,?_,λh=>h.put k H⟩
  ·rw[yi1.1 ht];exact kZ g3 H U
  ·by_cases e:k=j
   ·exact .inl (by rw[e];exact ye2 _ (yi1.2 rfl))
   ·exact .inr (yp e)
  ·have hm:=Ql sh k x v M;rw[yi,yn1];omega
 by_cases H:x.1=false
 ·rw[if_pos H]at h;obtain rfl:=yb h;refine put (true,a) rfl Y h8 (λe=>by rw[H]at e;cases e) ?_ (oM a);unfold R4;rw[H,if_neg (by decide),if_pos rfl];omega
 ·rw[if_neg H]at h;have H:x.1=true:=by simpa using H
  by_cases J:x.2.length≠a.length
  ·rw[if_pos J]at h;cases h
  ·rw[if_neg J]at h;have J:x.2.length=a.length:=Decidable.not_not.1 J;obtain⟨j1,j2,Z,N,j5,j6⟩:=Af x.2 a J W.1 Y;by_cases K:dR x.2 a=x.2
   ·rw[if_pos K]at h;obtain rfl:=yb h;refine⟨hI,lP.refl sh,λt ht=>?_,λj=> .inr rfl,λt ht=>ht,λt ht=> .inl ht,yb1 _,id⟩;rw[yi1.1 ht];exact kZ M H (by rw[K]at N;exact N)
   ·rw[if_neg K]at h;obtain rfl:=yb h;refine put (true,dR x.2 a) rfl j1 (by rw[j2];exact W.2) (λ_=>Z) ?_ N;have:=j6 K;unfold R4;rw[if_pos H,if_pos rfl];simp only;omega
theorem gX{mp:List bT}{a:List cQ}{k:Nat}(h:dI mp a (k:Int)=true): ∃y:bT,mp[k]?=some y/\y.1=true/\bO a y.2=true:=by
 unfold dI at h;rw[aE]at h;cases H:mp[k]? with
 |none=>rw[H]at h;cases h
 |some y=>rw[H]at h;simp only[yc]at h;exact⟨y,rfl,h.1,h.2⟩
theorem lP.put{sh R:List bT}{k:Nat}{y v:bT}(h:lP sh R)(J:R[k]?=some y)(N:y.1=true)(K:bO v.2 y.2=true):lP (sh.set k v) R:=by
 refine⟨by rw[yg3];exact h.1,λj z H=>?_⟩;by_cases e:k=j
 ·subst e;have M:k<sh.length:=by have:=(yd.1 H).1;rwa[yg3]at this
  rw[yt M]at H;obtain rfl:=yb H;exact⟨y,J,λ_=>⟨N,K⟩⟩
 ·rw[yp e]at H;exact h.2 j z H
theorem SQ{sh:List bT}{q:List Int}{k:Nat}{x:bT}{a:List cQ}{R:List bT}(W:sh[k]?=some x)(H:lP sh R)(hn:dI R a (k:Int)=true): ∃r,BO sh q k x a=some r/\lP r.1 R:=by
 obtain⟨y,N,V,O⟩:=gX hn;obtain⟨y',J,M⟩:=H.2 k x W;rw[N]at J;obtain rfl:=yb J;unfold BO;by_cases K:x.1=false
 ·rw[if_pos K];exact⟨_,rfl,H.put N V O⟩
 ·rw[if_neg K];have K:x.1=true:=by simpa using K
  have M:=(M K).2;rw[if_neg (by rw[d9 M,d9 O];exact λh=>h rfl)];by_cases U:dR x.2 a=x.2
  ·rw[if_pos U];exact⟨_,rfl,H⟩
  ·rw[if_neg U];exact⟨_,rfl,H.put N V (zR M O)⟩
def vT(a:List cQ):List Int->List bT->List Int->Option (List bT×List Int)
 | [],sh,q=>some (sh,q)
 |t::ts,sh,q=>match sh[t.toNat]? with
  |some x=>(BO sh q t.toNat x a).bind λr=>vT a ts r.1 r.2
  |none=>none
theorem Wf.trans{L:Nat}{a:List cQ}{sh O N:List bT}{q V U:List Int}{t:Int}{ts:List Int}(h:Wf L a sh q [t] O V)(H:Wf L a O V ts N U):Wf L a sh q (t::ts) N U:=by
 refine⟨H.inv,h.le.trans H.le,λu M=>?_,λj=>?_,λu M=>H.sub u (h.sub u M),λu M=>?_,by have:=h.pot;have:=H.pot;omega,λe=>H.nil (h.nil e)⟩
 ·rcases yk1.1 M with rfl|M
  ·exact Em H.le (h.nxt u (yi1.2 rfl))
  ·exact H.nxt u M
 ·rcases H.same j with J|J
  ·exact .inl J
  ·rcases h.same j with K|K
   ·exact .inl (H.sub _ K)
   ·exact .inr (J.trans K)
 ·rcases H.new u M with J|J
  ·rcases h.new u J with K|K
   ·exact .inl K
   ·exact .inr (by rw[yi1.1 K];exact yn ..)
  ·exact .inr (yk _ J)
theorem Kj{L:Nat}{a:List cQ}(M:Hd a)(K:a.length≤8): ∀{ts:List Int} {sh:List bT} {q:List Int} {r:List bT×List Int},pI L sh->(∀t∈ts,0≤t)->vT a ts sh q=some r->Wf L a sh q ts r.1 r.2
 | [],sh,q,r,hI,_,h=>by
  obtain rfl:=yb h;exact⟨hI,lP.refl sh,(λt ht=>by cases ht),λj=> .inr rfl,λt ht=>ht,λt ht=> .inl ht,yb1 _,id⟩
 |t::ts,sh,q,r,hI,J,h=>by
  simp only[vT]at h;split at h
  ·rename_i x N;obtain⟨p,U,h⟩:=yp1.1 h;have H:=Up hI N M K U;rw[Int.toNat_of_nonneg (J t (yn ..))]at H;exact H.trans (Kj M K H.inv (λu O=>J u (yk _ O)) h)
  ·cases h
theorem Im{a:List cQ}{R:List bT}: ∀{ts:List Int} {sh:List bT} {q:List Int},lP sh R->(∀t∈ts,0≤t/\dI R a t=true)->∃r,vT a ts sh q=some r/\lP r.1 R
 | [],sh,q,H,_=>⟨_,rfl,H⟩
 |t::ts,sh,q,H,h=>by
  obtain⟨O,hn⟩:=h t (yn ..);obtain⟨k,rfl⟩:=yc3 O;obtain⟨y,W,_⟩:=gX hn;have K:k<sh.length:=by rw[H.1];exact(yd.1 W).1
  have N:sh[k]?=some sh[k]:=ye K;obtain⟨r,hr,J⟩:=SQ (q:=q) N H hn;obtain⟨U,M,V⟩:=Im (ts:=ts) (q:=r.2) J λu Y=>h u (yk _ Y);refine⟨U,?_,V⟩;simp only[vT,yz,N,hr,ya,M]
theorem F3{m:aX}{N H:Nat}{f:gH}{i:BL}{a b:List cQ}(hc:bQ m=0)(hf:m.funcs[N]?=some f)(M:f.2.2.2.2[H]?=some i)(J:bO a b=true)(U:b.length≤200)(O:(bL m f i (H:Int) b).2.2=0):
  (bL m f i (H:Int) a).2.2=0/\bO (bL m f i (H:Int) a).1 (bL m f i (H:Int) b).1=true/\(bL m f i (H:Int) a).2.1=(bL m f i (H:Int) b).2.1:=by
 have hl:=d9 J;obtain⟨_,_,Y,_⟩:=jK m N H f i a hc hf M (by omega);obtain⟨_,_,eb,_⟩:=jK m N H f i b hc hf M U;have K:=((gM (eA hc).1).2.2.2.1 f (yj hf)).1 i (yj M);obtain⟨k1,V,k3,Z,k5,k6⟩:=If O;obtain⟨q1,W,q3,q4⟩:=PM 10000 m f i a b _ _ K U J Y eb k1 V Z;exact PX J O q1 W q3 q4
noncomputable def Qu(m:aX)(f:gH)(sh:List bT)(pc:Nat)(q:List Int):Option (List bT×List Int):=
 match sh[pc]?,f.2.2.2.2[pc]? with
 |some x,some i=>if(bL m f i (pc:Int) x.2).2.2=0 then vT (bL m f i (pc:Int) x.2).1 (bL m f i (pc:Int) x.2).2.1 sh q else none
 |_,_=>none
structure R0 (m:aX) (f:gH) (sh:List bT) (q:List Int):Prop where
 inv:pI f.2.2.2.2.length sh
 seen: ∀t∈q,∃(k:Nat) (x:bT),t=(k:Int)/\sh[k]?=some x/\x.1=true
 done: ∀k,k<f.2.2.2.2.length->(k:Int)∈q\/sU m f sh k=true
theorem Db{m:aX}{f:gH}{sh:List bT}{pc:Nat}{x:bT}{i:BL}(K:sh[pc]?=some x)(M:f.2.2.2.2[pc]?=some i)(h:sU m f sh pc=true):
  x.2.length≤8/\(x.1=true->(bL m f i (pc:Int) x.2).2.2=0/\∀t∈(bL m f i (pc:Int) x.2).2.1,dI sh (bL m f i (pc:Int) x.2).1 t=true):=by
 unfold sU at h;rw[K,M]at h;have h:I8 m f sh i (pc:Int) x=true:=h;unfold I8 at h;rw[yc]at h;refine⟨by have:=h.1;simp at this;omega,λJ=>?_⟩;have H:=h.2;rw[J,yf1,yb4,yc,ya1,beq_iff_eq]at H;exact H
theorem U0{m:aX}{Z:Nat}{f:gH}(hc:bQ m=0)(hf:m.funcs[Z]?=some f){sh:List bT}{pc:Nat}{q:List Int}{r:List bT×List Int}(hI:R0 m f sh ((pc:Int)::q))(h:Qu m f sh pc q=some r):
  R0 m f r.1 r.2/\lP sh r.1/\r.2.length+mu sh≤q.length+mu r.1/\(jV sh->jV r.1):=by
 obtain⟨k,x,U,O,hx1⟩:=hI.seen _ (yn ..);obtain rfl:pc=k:=by omega
 have Y:pc<f.2.2.2.2.length:=by rw[<-hI.inv.len];exact(yd.1 O).1
 obtain⟨i,hi⟩: ∃i,f.2.2.2.2[pc]?=some i:=⟨_,ye Y⟩
 have N:=hI.inv.all x (yj O);obtain⟨_,_,_,q1,q2,q3⟩:=jK m Z pc f i x.2 hc hf hi (by omega);obtain⟨w1,w2⟩:=HV hc hf hi (by omega) N.1;unfold Qu at h;rw[O,hi]at h;simp only at h;by_cases V:(bL m f i (pc:Int) x.2).2.2=0
 ·rw[if_pos V]at h;have hm:=Kj w1 w2 hI.inv (λt ht=>(q3 t ht).1) h;refine⟨⟨hm.inv,λt ht=>?_,λk U=>?_⟩,hm.le,hm.pot,hm.nil⟩
  ·rcases hm.new t ht with H|H
   ·obtain⟨k,y,e,K,M⟩:=hI.seen t (yk _ H);obtain⟨z,hz,W⟩:=hm.le.2 k y K;exact⟨k,z,e,hz,(W M).1⟩
   ·obtain⟨k,rfl⟩:=yc3 (q3 t H).1;obtain⟨y,K,M,_⟩:=gX (hm.nxt _ H);exact⟨k,y,rfl,K,M⟩
  ·rcases hm.same k with H|H
   ·exact .inl H
   ·by_cases e:k=pc
    ·subst e;refine .inr (CQ (H.trans O) hi N.2 λ_=>⟨V,hm.nxt⟩)
    ·rcases hI.done k U with J|J
     ·rcases yk1.1 J with J|J
      ·exact absurd (by omega) e
      ·exact .inl (hm.sub _ J)
     ·obtain⟨y,K⟩: ∃y,sh[k]?=some y:=⟨_,ye (by rw[hI.inv.len];exact U)⟩
      obtain⟨j,hj⟩: ∃j,f.2.2.2.2[k]?=some j:=⟨_,ye U⟩
      obtain⟨o1,o2⟩:=Db K hj J;exact .inr (CQ (H.trans K) hj o1 λM=>⟨(o2 M).1,λt ht=>Em hm.le ((o2 M).2 t ht)⟩)
 ·rw[if_neg V]at h;cases h
def PI(m:aX)(f:gH)(R:List bT):Prop:=R.length=f.2.2.2.2.length/\∀k,k<f.2.2.2.2.length->sU m f R k=true
theorem OU{m:aX}{O:Nat}{f:gH}(hc:bQ m=0)(hf:m.funcs[O]?=some f){sh R:List bT}{pc:Nat}{q:List Int}(hI:R0 m f sh ((pc:Int)::q))(hR:PI m f R)(H:lP sh R):
  ∃r,Qu m f sh pc q=some r/\lP r.1 R:=by
 obtain⟨k,x,hk,K,N⟩:=hI.seen _ (yn ..);obtain rfl:pc=k:=by omega
 have J:pc<f.2.2.2.2.length:=by rw[<-hI.inv.len];exact(yd.1 K).1
 obtain⟨i,hi⟩: ∃i,f.2.2.2.2[pc]?=some i:=⟨_,ye J⟩
 obtain⟨y,Z,M⟩:=H.2 pc x K;obtain⟨y1,M⟩:=M N;obtain⟨o1,Y⟩:=Db Z hi (hR.2 pc J);obtain⟨p1,p2⟩:=Y y1;obtain⟨V,b2,b3⟩:=F3 hc hf hi M (by omega) p1;obtain⟨_,_,_,_,_,U⟩:=jK m O pc f i y.2 hc hf hi (by omega);unfold Qu;rw[K,hi];simp only;rw[if_pos V];refine Im H λt ht=>?_;rw[b3]at ht;refine⟨(U t ht).1,?_⟩;obtain⟨k,rfl⟩:=yc3 (U t ht).1;obtain⟨z,W,z1,z2⟩:=gX (p2 _ ht);exact kZ W z1 (o6 b2 z2)
theorem Km(L:Nat):jV ((List.replicate L ((false,[]):bT)).set 0 (true,[])):=
 jV.put (λx H _=>by rw[List.eq_of_mem_replicate H]) 0 rfl
theorem zN{m:aX}{f:gH}{R:List bT}(hL:1≤f.2.2.2.2.length)(hR:sJ m f R=true):PI m f R/\lP ((List.replicate f.2.2.2.2.length ((false,[]):bT)).set 0 (true,[])) R:=by
 unfold sJ at hR;rw[yc,yc,decide_eq_true_eq,ya1]at hR;obtain⟨⟨H,J⟩,O⟩:=hR;refine⟨⟨H,λk K=>O k (List.mem_range.2 (by omega))⟩,?_⟩
 match R,H,J with
 | [],H,_=>simp at H;omega
 |x::R,H,J=>
  simp only[yc,yx,decide_eq_false_iff_not]at J;have M:x.2= []:=List.length_eq_zero_iff.1 (by omega);refine lP.put (y:=x) ⟨by rw[yi3];exact H.symm,λk z N=>?_⟩ rfl J.1 (by rw[M];rfl);have K:=(yd.1 N).1;rw[yi3]at K;refine⟨(x::R)[k]'(by omega),ye _,λh=>?_⟩;rw[yt1,if_pos K]at N;obtain rfl:=yb N;cases h
theorem SU{x y:cQ}(U:J2 x)(M:J2 y)(h:fS x y=true)(H:fS y x=true):x=y:=by
 unfold J2 at U M;rcases(eW x y).1 h with rfl|h8|⟨r1,r2,r3⟩
 ·rfl
 ·rcases(eW y x).1 H with rfl|O|⟨J,K,N⟩
  ·rfl
  ·exact Prod.ext (by omega) (by omega)
  ·rw[yT]at J;omega
 ·rcases(eW y x).1 H with rfl|O|⟨J,K,N⟩
  ·rfl
  ·rw[yT]at r1;omega
  ·exact Prod.ext (by omega) (by omega)
theorem Iz: ∀{a b:List cQ},Hd a->Hd b->bO a b=true->bO b a=true->a=b
 | [],[],_,_,_,_=>rfl
 |x::a,y::b,K,J,h,H=>by
  rw[oD,yc]at h H;rw[SU (K x (yn ..)) (J y (yn ..)) h.1 H.1,Iz (λt ht=>K t (yk _ ht)) (λt ht=>J t (yk _ ht)) h.2 H.2]
 | [],_::_,_,_,h,_=>by have:=d9 h;simp at this
 |_::_,[],_,_,h,_=>by have:=d9 h;simp at this
theorem lP.anti{L Z:Nat}{a b:List bT}(ha:pI L a)(hb:pI Z b)(W:jV a)(nb:jV b)(h:lP a b)(Y:lP b a):a=b:=by
 refine List.ext_getElem h.1 λk K J=>?_;obtain⟨y,N,f⟩:=h.2 k _ (ye K);obtain⟨x,M,g⟩:=Y.2 k _ (ye J);rw[ye J]at N;rw[ye K]at M;obtain rfl:=yb N;obtain rfl:=yb M;have O:=yf2 K;have V:=yf2 J;cases e:a[k].1 with
 |true=>
  obtain⟨U,f2⟩:=f e;exact Prod.ext (e.trans U.symm) (Iz (ha.all _ O).1 (hb.all _ V).1 f2 (g U).2)
 |false=>
  cases H:b[k].1 with
  |true=>have:=(g H).1;rw[e]at this;cases this
  |false=>exact Prod.ext (e.trans H.symm) ((W _ O e).trans (nb _ V H).symm)
theorem Nt{m:aX}{H:List (List bT)}(h:iG m H=true){k:Nat}{f:gH}(hf:m.funcs[k]?=some f): ∃R,sJ m f R=true:=by
 unfold iG at h;rw[yc,yc,decide_eq_true_eq,ya1]at h;obtain⟨_,K,M⟩:=h;have J:k<H.length:=by rw[K];exact(yd.1 hf).1
 have:=M k (List.mem_range.2 J);rw[Mh (ye J) hf]at this;exact⟨_,this⟩
end Sx
end
section
namespace Sx
open Go Go.Ab
theorem qcm_eq(n:Nat)(a b:cQ):qcm n a.1 a.2 b.1 b.2=some (dQ a b):=by
 unfold qcm dQ;rw[qcy_eq n a b,ya,qcy_eq n b a,ya,qcz_eq n a,ya,qcz_eq n b,ya];cases fS a b<;>cases fS b a<;>cases qQ a<;>cases qQ b<;>rfl
theorem KK(n:Nat)(a:List cQ)(ha:a.length≤1000):qby n a=some a:=by
 unfold qby;rw[yl1 (by omega),yh]
theorem OB(n:Nat)(a:List cQ):qcp n a=some ((0,a.length),a):=by
 unfold qcp;rw[aB,decide_eq_true (by omega),decide_eq_true (by omega),yj1,yh,yz,decide_eq_true (by omega),yj1,yh,Nat.sub_zero]
theorem H6{α:Type}{l:List α}{k:Nat}{x:α}(h:l[k]?=some x):l.set k x=l:=by
 refine yg4 λj=>?_;by_cases e:k=j
 ·subst e;rw[yt (yd.1 h).1,h]
 ·rw[yp e]
structure QR (o n:Nat) (m2 q:List Int):Prop where
 le:o+n≤m2.length
 eq:(m2.drop o).take n=q
theorem QR.len{o n:Nat}{H q:List Int}(h:QR o n H q):q.length=n:=by
 rw[<-h.eq,yj2,yd4];have:=h.le;omega
theorem QR.whole(l:List Int):QR 0 l.length l l:=⟨by omega,by simp⟩
theorem QR.head{o n:Nat}{H q:List Int}{t:Int}(h:QR o n H (t::q)):1≤n/\H[o]?=some t/\QR (o+1) (n-1) H q:=by
 have J:=h.len;have U:=h.le;have M:=h.eq;rw[yw]at J;have K:o<H.length:=by omega
 rw[yu3 K,<-J,yc4]at M;injection M with O N
 exact⟨by omega,by rw[ye K,O],by omega,by rw[<-J,Nat.add_sub_cancel];exact N⟩
abbrev UL:=List (List cQ)×List gH×List S2×List Int×List ByteArray×Int×Nat×Nat
abbrev QZ(m:aX)(fk:Int)(o n:Nat):UL:=(m.recs,(m.funcs,(m.imps,(m.ints,(m.texts,(fk,(o,n)))))))
theorem T8(n k:Nat)(c:UL)(O:List Int): ∀(s a J K:List cQ) (H:Bool) (sh:List bT) (j:Nat),sh[k]?=some (true,J++s)->J.length=K.length->s.length=a.length->K.length+a.length≤1000->a.length<j->
  aM (λs=>qc_B0 n s.1.1 s.1.2.1 s.1.2.2.1 s.1.2.2.2.1 s.1.2.2.2.2.1 s.1.2.2.2.2.2 s.2.1 s.2.2.1 s.2.2.2) j
   (((k:Int),(k,(H,(K++a,((((K++a).length:Nat):Int),((K.length:Nat):Int)))))),(c,(sh,O)))=some (((k:Int),(H||!decide (dR s a=s))),(c,(sh.set k (true,J++dR s a),O)))
 | [],[],J,K,H,sh,j+1,W,U,_,Y,_=>by
  refine cA ?_;show qc_B0 n (k:Int) k H (K++ []) (((K++ []).length:Nat):Int) ((K.length:Nat):Int) c sh O=_;unfold qc_B0;rw[decide_eq_false (by simp),yg,show dR [] []= []from rfl,H6 W];simp
 |x::s,y::a,J,K,H,sh,j+1,W,U,V,Y,h4=>by
  have g1:(J++x::s)[K.length]?=some x:=by rw[<-U];simp
  have g2:aF (K++y::a) ((K.length:Nat):Int)=some y:=by rw[aE];simp
  have g3:(J++x::s).set K.length (dQ x y)=J++dQ x y::s:=by rw[<-U];simp
  have M:sh.set k (true,J++x::s)=sh:=H6 W;have hkl:k<sh.length:=(yd.1 W).1;have d1:decide (((K.length:Nat):Int)<(((K++y::a).length:Nat):Int))=true:=decide_eq_true (by rw[yi,yw];omega);have d2:decide ((0:Int)≤(k:Int))=true:=decide_eq_true (by omega);have d3:Nat.beq k k=true:=yr3 k;have d4:decide ((0:Int)≤((K.length:Nat):Int))=true:=decide_eq_true (by omega);have d5:decide (((K.length:Nat):Int)<(((J++x::s).length:Nat):Int))=true:=decide_eq_true (by rw[yi,U,yw];omega);have d6:Nat.ble (K.length+1) (J++x::s).length=true:=yl1 (by rw[yi,U,yw];omega);have N:qc_B0 n (k:Int) k H (K++y::a) (((K++y::a).length:Nat):Int) ((K.length:Nat):Int) c sh O
    =some (Sum.inl (((k:Int),(k,((H||!decide (dQ x y=x)),(K++y::a,((((K++y::a).length:Nat):Int),((K.length+1:Nat):Int)))))),(c,(sh.set k (true,J++dQ x y::s),O)))):=by
   unfold qc_B0;simp only[d1,d2,d3,d4,d5,d6,yh,yz,g1,g2,g3,W,M,ya,yj1,qcm_eq n x y];rw[aW (by simp only[yw]at Y;omega) (by simp only[yw]at Y;omega)];have he:((dQ x y).1==x.1&&(dQ x y).2==x.2)=decide (dQ x y=x):=by
    rw[Bool.eq_iff_iff,yc,beq_iff_eq,beq_iff_eq,decide_eq_true_eq,Prod.ext_iff]
   rw[he];by_cases Z:dQ x y=x
   ·rw[decide_eq_true Z,yf1,yg,Bool.or_false,Z,M];rfl
   ·rw[decide_eq_false Z,yo2,yh,Bool.or_true];rfl
  refine(cB N).trans ?_;have ih:=T8 n k c O s a (J++ [dQ x y]) (K++ [y]) (H||!decide (dQ x y=x)) (sh.set k (true,J++dQ x y::s)) j (by rw[yt hkl,yw1];rfl) (by simp[U]) (by simpa using V)
   (by simp only[yi,yw,yz2]at Y⊢;omega) (by simp only[yw]at h4;omega)
  rw[yw1,yw1,List.set_set,show(K++ [y]).length=K.length+1 by simp]at ih;refine ih.trans ?_;have hb:(H||!decide (dQ x y=x)||!decide (dR s a=s))=(H||!decide (dR (x::s) (y::a)=x::s)):=by
   rw[show dR (x::s) (y::a)=dQ x y::dR s a from rfl];simp only[List.cons.injEq,Bool.decide_and,Bool.not_and,Bool.or_assoc]
  rw[hb];rfl
 | [],_::_,_,_,_,_,_,_,_,V,_,_=>by simp at V
 |_::_,[],_,_,_,_,_,_,_,V,_,_=>by simp at V
theorem Ve(n:Nat)(hn:500≤n)(c:UL){J q:List Int}(O:QR c.2.2.2.2.2.2.1 c.2.2.2.2.2.2.2 J q)(hql:q.length≤100000){sh:List bT}{k:Nat}{x:bT}{a:List cQ}(U:sh[k]?=some x)(ha:a.length≤200):
  ∃y,qc n (k:Int) a c sh J=some y/\(match BO sh q k x a with
   |none=>y=Sum.inr (Sum.inl (false,(c,(sh,J))))
   |some r=> ∃Y V K,QR Y V K r.2/\(y=Sum.inl (true,((c.1,(c.2.1,(c.2.2.1,(c.2.2.2.1,(c.2.2.2.2.1,(c.2.2.2.2.2.1,(Y,V))))))),(r.1,K)))\/y=Sum.inr (Sum.inr (true,((c.1,(c.2.1,(c.2.2.1,(c.2.2.2.1,(c.2.2.2.2.1,(c.2.2.2.2.2.1,(Y,V))))))),(r.1,K)))))):=by
 have W:k<sh.length:=(yd.1 U).1;have d1:decide ((0:Int)≤(k:Int))=true:=decide_eq_true (by omega);have d2:decide ((k:Int)<((sh.length:Nat):Int))=true:=decide_eq_true (by omega);have d3:Nat.ble (c.2.2.2.2.2.2.1+c.2.2.2.2.2.2.2) J.length=true:=yl1 O.le;have Z:Nat.ble (q++ [(k:Int)]).length 4294967296=true:=yl1 (by simp;omega);have d5:Nat.ble 1 (q++ [(k:Int)]).length=true:=yl1 (by simp);have d6:Nat.beq 0 0=true:=rfl;have d7:Nat.ble a.length a.length=true:=yl1 (yb1 _);unfold qc BO;simp only[d1,d2,d3,yj1,yh,yz,U,ya,O.eq];cases hx:x.1 with
 |false=>
  simp only[yo2,yh,KK n a (by omega),OB,ya,yt W,Z,d5,d6,d7,Bool.or_true,List.set_set,yu2,if_true];exact⟨_,rfl,_,_,_,QR.whole _,.inl rfl⟩
 |true=>
  simp only[yf1,yg,reduceCtorEq,if_false,Bq];have H:sh.set k (true,x.2)=sh:=H6 (by rw[U,<-hx]);by_cases N:x.2.length=a.length
  ·rw[decide_eq_true N,yf1,yg,H];have hW:qc_W0 n ((((k:Int),(k,(false,(a,(aC a,0))))),(c,(sh,J))))=some (((k:Int),(false||!decide (dR x.2 a=x.2))),(c,(sh.set k (true,dR x.2 a),J))):=
    T8 n k c J x.2 a [] [] false sh n (by rw[U,<-hx];rfl) rfl N (by simp;omega) (by omega)
   rw[hW,ya];simp only[yb4,ne_eq,N,not_true_eq_false,if_false,O.eq,d3,Z,d5,yh,Bool.or_true];by_cases M:dR x.2 a=x.2
   ·rw[decide_eq_true M,yf1,yg,if_pos M,M,H];exact⟨_,rfl,_,_,_,O,.inr rfl⟩
   ·rw[decide_eq_false M,yo2,yh,if_neg M];exact⟨_,rfl,_,_,_,QR.whole _,.inr rfl⟩
  ·rw[decide_eq_false N,yo2,yh,H,if_pos N];exact⟨_,rfl,rfl⟩
end Sx
end
section
namespace Sx
open Go Go.Ab
theorem Ri(n:Nat)(t5:Int)(U:Bool)(Y:Int)(N:List Int)(K:Int)(M:Nat)(m:aX)(V:List (List bT))(W:List bT): ∀(s a H J:List cQ) (j:Nat),H.length=J.length->s.length=a.length->J.length+a.length≤1000->a.length<j->
  aM (λs=>qbp_B8 n s.1.1 s.1.2.1 s.1.2.2.1 s.1.2.2.2.1 s.1.2.2.2.2.1 s.1.2.2.2.2.2.1 s.1.2.2.2.2.2.2.1 s.1.2.2.2.2.2.2.2 s.2.1.1 s.2.1.2.1 s.2.1.2.2.1 s.2.1.2.2.2.1 s.2.1.2.2.2.2 s.2.2.1 s.2.2.2.1 s.2.2.2.2) j
   ((t5,(U,(Y,(J++a,(N,(K,(M,((J.length:Nat):Int)))))))),(aL m,(V,(W,H++s))))=some ((t5,(U,(Y,(J++a,(N,(K,M)))))),(aL m,(V,(W,H++dR s a))))
 | [],[],H,J,j+1,Z,_,h3,_=>by
  refine cA ?_;show qbp_B8 n t5 U Y (J++ []) N K M ((J.length:Nat):Int) m.recs m.funcs m.imps m.ints m.texts V W (H++ [])=_;unfold qbp_B8;rw[aB,decide_eq_false (by simp),yg];rfl
 |x::s,y::a,H,J,j+1,Z,h2,h3,h4=>by
  have g1:(H++x::s)[J.length]?=some x:=by rw[<-Z];simp
  have g2:aF (J++y::a) ((J.length:Nat):Int)=some y:=by rw[aE];simp
  have g3: ∀v,(H++x::s).set J.length v=H++v::s:=λv=>by rw[<-Z];simp
  have O:qbp_B8 n t5 U Y (J++y::a) N K M ((J.length:Nat):Int) m.recs m.funcs m.imps m.ints m.texts V W (H++x::s)
    =some (Sum.inl ((t5,(U,(Y,(J++y::a,(N,(K,(M,((J.length+1:Nat):Int)))))))),(aL m,(V,(W,H++dQ x y::s))))):=by
   have e1:decide (((J.length:Nat):Int)<(((H++x::s).length:Nat):Int))=true:=decide_eq_true (by rw[yi,Z,yw];omega);unfold qbp_B8
   rw[aB,decide_eq_true (by rw[yi,yw];omega),yh,e1,decide_eq_true (by omega),yj1,yh,yz,g1,ya,g2,ya,M8,ya,
    yh,yl1 (by rw[yi,Z,yw];omega),yh,g3,aW (by simp only[yw]at h3;omega) (by simp only[yw]at h3;omega)]
   rfl
  refine(cB O).trans ?_;have ih:=Ri n t5 U Y N K M m V W s a (H++ [dQ x y]) (J++ [y]) j (by simp[Z]) (by simpa using h2) (by simp only[yi,yw,yz2]at h3⊢;omega) (by simp only[yw]at h4;omega);rw[yw1,yw1,yw1,yi]at ih;exact ih
 | [],_::_,_,_,_,_,h2,_,_=>by simp at h2
 |_::_,[],_,_,_,_,h2,_,_=>by simp at h2
theorem Tc(n:Nat)(hn:100≤n)(U:Int)(M:Bool)(V:Int)(H:List Int)(J:Int)(K:Nat)(m:aX)(N:List (List bT))(O:List bT)(s a:List cQ)(W:s.length=a.length)(h8:a.length≤8):
  qbp_W8 n ((U,(M,(V,(a,(H,(J,(K,0))))))),(aL m,(N,(O,s))))=some ((U,(M,(V,(a,(H,(J,K)))))),(aL m,(N,(O,dR s a)))):=by
 have h:=Ri n U M V H J K m N O s a [] [] n rfl W (by simp;omega) (by omega);exact h
theorem VD(m:aX){L:Nat}{mp:List bT}(hI:pI L mp)(t5 t8:Int)(W:Bool)(m1:List (List bT))(H:List cQ)(to:List Int)(hw:Hd H)(h8:H.length≤8)(i:Nat)(t:Int)(ht:to[i]?=some t)(h0:0≤t)(hL:t<(L:Int))(hL64:L≤64)(h10:to.length≤10):
  (∃O:Bool×List bT,qbp_B6 10000 t5 W t8 H to (i:Int) m.recs m.funcs m.imps m.ints m.texts m1 mp=some (Sum.inl ((t5,(O.1,(t8,(H,(to,((i+1:Nat):Int)))))),(aL m,(m1,O.2))))/\pI L O.2/\yO W mp O.1 O.2/\dI O.2 H t=true/\(∀R,lP mp R->dI R H t=true->lP O.2 R)/\(jV mp->jV O.2))\/
  (qbp_B6 10000 t5 W t8 H to (i:Int) m.recs m.funcs m.imps m.ints m.texts m1 mp=some (Sum.inr (Sum.inl (([],false),(aL m,(m1,mp)))))/\∀R,lP mp R->dI R H t=true->False):=by
 obtain⟨k,rfl⟩:=yc3 h0;have Z:k<mp.length:=by rw[hI.len];omega
 obtain⟨x,hx⟩: ∃x,mp[k]?=some x:=⟨_,ye Z⟩
 have hi:i<to.length:=(yd.1 ht).1;have hxm:=hI.all x (yj hx);unfold qbp_B6;rw[aB,decide_eq_true (by omega),yh,aE,ht,ya,decide_eq_true (by omega),decide_eq_true (by omega),yj1,yh,yz,hx,ya];cases J:x.1 with
 |false=>
  refine .inl ⟨(true,mp.set k (true,H)),?_,?_⟩
  ·simp only[yo2,yh,ya];rw[yt Z,ya,List.set_set,aW (by omega) (by omega)];rfl
  ·have:=JQ hI hx (v:=(true,H)) hw h8 rfl (λe=>by rw[J]at e;cases e) (by simp[R4,J];omega) W;exact⟨this.1,this.2.1,kZ this.2.2 rfl (oM _),λR hR hn=>by obtain⟨y,Y,y1,y2⟩:=gX hn;exact hR.put Y y1 y2,λh=>h.put k rfl⟩
 |true=>
  simp only[yf1,yg,ya];rw[Bq];by_cases K:x.2.length=H.length
  ·rw[decide_eq_true K,yf1,yg,yl1 (by omega),yh,Tc 10000 (by omega) t5 W t8 to (i:Int) k m m1 mp x.2 H K h8,ya];obtain⟨j1,j2,j3,j4,j5,j6⟩:=Af x.2 H K hxm.1 hw
   show(∃O:Bool×List bT,((mp[k]?).bind λM=>(qba 10000 (dR x.2 H) M.2).bind λU=>_)=_/\_)\/(((mp[k]?).bind λM=>(qba 10000 (dR x.2 H) M.2).bind λU=>_)=_/\_)
   rw[hx,ya,Bo 10000 _ _ (by omega) (by omega),ya];refine .inl ?_;cases he:R6 UB (dR x.2 H) x.2 with
   |true=>
    have V:=(Nn _ _).1 he;refine⟨(W,mp),?_,hI,yO.refl _ _,kZ hx J (by rw[<-V];exact j4),λR hR _=>hR,id⟩;simp only[yf1,yg];rw[aW (by omega) (by omega)];rfl
   |false=>
    have V:dR x.2 H≠x.2:=λh=>by rw[(Nn _ _).2 h]at he;cases he
    refine⟨(true,mp.set k (x.1,dR x.2 H)),?_,?_⟩
    ·simp only[yo2,yh,ya];rw[aW (by omega) (by omega)];rfl
    ·have:=JQ hI hx (v:=(x.1,dR x.2 H)) j1 (by rw[j2];omega) J (λ_=>j3) (by simp only[R4,J,if_true];have:=j6 V;omega) W;refine⟨this.1,this.2.1,kZ this.2.2 J j4,λR hR hn=>?_,λh=>h.put k J⟩;obtain⟨y,Y,y1,y2⟩:=gX hn;obtain⟨y',N,hb⟩:=hR.2 k x hx;rw[Y]at N;obtain rfl:=yb N;exact hR.put Y y1 (zR (hb J).2 y2)
  ·rw[decide_eq_false K,yo2,yh];refine .inr ⟨rfl,λR hR hn=>?_⟩;obtain⟨y,Y,y1,y2⟩:=gX hn;obtain⟨y',N,hb⟩:=hR.2 k x hx;rw[Y]at N;obtain rfl:=yb N;exact K ((d9 (hb J).2).trans (d9 y2).symm)
theorem U5(m:aX){L:Nat}{mp:List bT}(hI:pI L mp)(O N:Int)(Y:Bool)(M:List (List bT))(H:List cQ)(to:List Int)(hw:Hd H)(h8:H.length≤8)(ht: ∀t∈to,0≤t/\t<(L:Int))(W:L≤64)(h10:to.length≤10):
  ∃y,qbp_W6 10000 ((O,(Y,(N,(H,(to,0))))),(aL m,(M,mp)))=some y/\((∃J,y=Sum.inl (([],false),(aL m,(M,J)))/\∀R,lP mp R->(∀t∈to,dI R H t=true)->False)\/
   ∃V J,y=Sum.inr ((O,(V,N)),(aL m,(M,J)))/\pI L J/\yO Y mp V J/\(∀t∈to,dI J H t=true)/\(∀R,lP mp R->(∀t∈to,dI R H t=true)->lP J R)/\(jV mp->jV J)):=by
 refine fI (xs:=to) (mk:=λi (a:Bool×List bT)=>((O,(a.1,(N,(H,(to,(i:Int)))))),(aL m,(M,a.2)))) (I:=λi a=>pI L a.2/\yO Y mp a.1 a.2/\(∀(k:Nat) (t:Int),k<i->to[k]?=some t->dI a.2 H t=true)/\(∀R,lP mp R->(∀t∈to,dI R H t=true)->lP a.2 R)/\(jV mp->jV a.2)) ?_ ?_ to.length 0 10000 (Y,mp) (by omega) ⟨hI,yO.refl _ _,λk t hk=>by omega,λR h _=>h,id⟩ (by omega)
 ·rintro i ⟨c,l⟩ t K ⟨i1,i2,i3,Z,i5⟩
  have U:=ht t (yj K);rcases VD m i1 O N c M H to hw h8 i t K U.1 U.2 W h10 with ⟨a',h1,h2,h3,h4,h5,h6⟩|h
  ·refine .inl ⟨a',h1,h2,i2.trans h3,λk u hk hu=>?_,λR hR hn=>h5 R (Z R hR hn) (hn t (yj K)),λh=>h6 (i5 h)⟩;by_cases hki:k=i
   ·subst hki;rw[K]at hu;obtain rfl:=yb hu;exact h4
   ·exact Em h3.le (i3 k u (by omega) hu)
  ·exact .inr ⟨_,h.1,.inl ⟨l,rfl,λR hR hn=>h.2 R (Z R hR hn) (hn t (yj K))⟩⟩
 ·rintro⟨c,l⟩ ⟨i1,i2,i3,Z,i5⟩
  refine⟨Sum.inr ((O,(c,N)),(aL m,(M,l))),?_,.inr ⟨c,l,rfl,i1,i2,λt ht'=>?_,Z,i5⟩⟩
  ·show qbp_B6 10000 O c N H to (to.length:Int) m.recs m.funcs m.imps m.ints m.texts M l=_;unfold qbp_B6;rw[aB,decide_eq_false (by omega),yg]
  ·obtain⟨k,hk⟩:=List.mem_iff_getElem?.1 ht';exact i3 k t (yd.1 hk).1 hk
end Sx
end
section
namespace Sx
open Go Go.Ab
theorem Vl(m:aX){K:Nat}{f:gH}{L:Nat}{mp:List bT}(hc:bQ m=0)(hf:m.funcs[K]?=some f)(hLc:L=f.2.2.2.2.length)(hL64:L≤64)(hI:pI L mp)(Y:Bool)(N:List (List bT))(pc:Nat)(hp:pc<L):
  (∃ M : Bool × List bT, qbp_B4 10000 (K : Int) Y (pc : Int) m.recs m.funcs m.imps m.ints m.texts N mp = some (Sum.inl (((K : Int), (M.1, ((pc + 1 : Nat) : Int))), (aL m, (N, M.2)))) ∧ pI L M.2 ∧ yO Y mp M.1 M.2 ∧
   (M.2 = mp → sU m f mp pc = true) ∧ (∀ R, PI m f R → lP mp R → lP M.2 R) ∧ (jV mp → jV M.2)) ∨
  ∃J,(∀R,PI m f R->lP mp R->False)/\qbp_B4 10000 (K:Int) Y (pc:Int) m.recs m.funcs m.imps m.ints m.texts N mp=some (Sum.inr (Sum.inl (([],false),(aL m,(N,J))))):=by
 have hpl:pc<mp.length:=by rw[hI.len];exact hp
 obtain⟨x,hx⟩: ∃x,mp[pc]?=some x:=⟨_,ye hpl⟩
 obtain⟨i,hi⟩: ∃i,f.2.2.2.2[pc]?=some i:=⟨_,ye (by omega)⟩
 have O:=hI.all x (yj hx);unfold qbp_B4;rw[aB,decide_eq_true (by omega),yh,decide_eq_true (by omega),yj1,yh,yz,hx,ya];cases hx1:x.1 with
 |false=>
  refine .inl ⟨(Y,mp),?_,hI,yO.refl _ _,λ_=>CQ hx hi O.2 (λe=>by rw[hx1]at e;cases e),λR _ h=>h,id⟩;rw[yo2,yh,aW (by omega) (by omega)];rfl
 |true=>
  obtain⟨_,hr,_,q1,q2,q3⟩:=jK m K pc f i x.2 hc hf hi (by omega);obtain⟨w1,w2⟩:=HV hc hf hi (by omega) O.1;have V: ∀R,PI m f R->lP mp R->(bL m f i (pc:Int) x.2).2.2=0/\∀t∈(bL m f i (pc:Int) x.2).2.1,dI R (bL m f i (pc:Int) x.2).1 t=true:=by
   intro R hR H;obtain⟨y,hy,hb⟩:=H.2 pc x hx;obtain⟨y1,hb⟩:=hb hx1;obtain⟨o1,o2⟩:=Db hy hi (hR.2 pc (by omega));obtain⟨p1,p2⟩:=o2 y1;obtain⟨b1,b2,b3⟩:=F3 hc hf hi hb (by omega) p1;refine⟨b1,λt ht=>?_⟩;rw[b3]at ht;obtain⟨k,rfl⟩:=yc3 (q3 t (by rw[b3];exact ht)).1;obtain⟨z,hz,z1,z2⟩:=gX (p2 _ ht);exact kZ hz z1 (o6 b2 z2)
  rw[yf1,yg,yh,ya,hr,ya];by_cases h0:(bL m f i (pc:Int) x.2).2.2=0
  ·have U:((bL m f i (pc:Int) x.2).2.2 !=0)=false:=by rw[h0];rfl
   rw[U,yg];obtain⟨y,hy,hor⟩:=U5 m hI (K:Int) (pc:Int) Y N _ _ w1 w2 (by rw[hLc];exact q3) hL64 (by omega)
   show(∃M:Bool×List bT,((qbp_W6 10000 (((K:Int),(Y,((pc:Int),((bL m f i (pc:Int) x.2).1,((bL m f i (pc:Int) x.2).2.1,0))))),(aL m,(N,mp)))).bind λW=>_)=_/\_)\/∃J,_/\((qbp_W6 10000 (((K:Int),(Y,((pc:Int),((bL m f i (pc:Int) x.2).1,((bL m f i (pc:Int) x.2).2.1,0))))),(aL m,(N,mp)))).bind λW=>_)=_
   rw[hy,ya];rcases hor with ⟨J,rfl,j5⟩|⟨Z,J,rfl,j1,j2,j3,j4,j6⟩
   ·exact .inr ⟨J,λR hR H=>j5 R H (V R hR H).2,rfl⟩
   ·refine .inl ⟨(Z,J),?_,j1,j2,λe=>CQ hx hi O.2 λ_=>⟨h0,?_⟩,λR hR H=>j4 R H (V R hR H).2,j6⟩
    ·show some (Sum.inl (((K:Int),(Z,aK .i64 (pc:Int) 1)),(aL m,(N,J))))=_;rw[aW (by omega) (by omega)];rfl
    ·have e':J=mp:=e;rw[e']at j3;exact j3
  ·have U:((bL m f i (pc:Int) x.2).2.2 !=0)=true:=by simpa using h0
   rw[U,yh];exact .inr ⟨mp,λR hR H=>h0 (V R hR H).1,rfl⟩
theorem Vs(m:aX){N:Nat}{f:gH}{L:Nat}{mp:List bT}(hc:bQ m=0)(hf:m.funcs[N]?=some f)(hLc:L=f.2.2.2.2.length)(V:L≤64)(hI:pI L mp)(K:List (List bT)):
  ∃y,qbp_W4 10000 (((N:Int),(false,0)),(aL m,(K,mp)))=some y/\((∃H,y=Sum.inl (([],false),(aL m,(K,H)))/\∀R,PI m f R->lP mp R->False)\/
   ∃M H,y=Sum.inr (((N:Int),M),(aL m,(K,H)))/\pI L H/\yO false mp M H/\(M=false->∀pc,pc<L->sU m f H pc=true)/\(∀R,PI m f R->lP mp R->lP H R)/\(jV mp->jV H)):=by
 have keep: ∀{a:Bool} {l:List bT},yO false mp a l->a=false->l=mp:=λh e=>by
  rcases h.or with ⟨_,h⟩|⟨h,_⟩
  ·exact h
  ·rw[e]at h;cases h
 refine fI (xs:=List.range L) (mk:=λi (a:Bool×List bT)=>(((N:Int),(a.1,(i:Int))),(aL m,(K,a.2)))) (I:=λi a=>pI L a.2/\yO false mp a.1 a.2/\(a.1=false->∀pc,pc<i->sU m f mp pc=true)/\(∀R,PI m f R->lP mp R->lP a.2 R)/\(jV mp->jV a.2)) ?_ ?_ L 0 10000 (false,mp) (by rw[yy2];omega) ⟨hI,yO.refl _ _,λ_ k hk=>by omega,λR _ h=>h,id⟩ (by omega)
 ·rintro i ⟨c,l⟩ t hit ⟨W,U,Z,Y,i5⟩
  have hil:i<L:=by have:=(yd.1 hit).1;rwa[yy2]at this
  rcases Vl m hc hf hLc V W c K i hil with ⟨a',h1,h2,h3,h4,h5,h6⟩|⟨H,h5,h⟩
  ·refine .inl ⟨a',h1,h2,U.trans h3,λe pc O=>?_,λR hR J=>h5 R hR (Y R hR J),λh=>h6 (i5 h)⟩;have ec:c=false/\a'.2=l:=by
    rcases h3.or with ⟨h,h'⟩|⟨h,_⟩
    ·exact⟨h.symm.trans e,h'⟩
    ·rw[e]at h;cases h
   have el:=keep U ec.1;by_cases hpi:pc=i
   ·subst hpi;have:=h4 ec.2;have el':l=mp:=el;rwa[show(c,l).2=l from rfl,el']at this
   ·exact Z ec.1 pc (by omega)
  ·exact .inr ⟨_,h,.inl ⟨H,rfl,λR hR J=>h5 R hR (Y R hR J)⟩⟩
 ·rintro⟨c,l⟩ ⟨W,U,Z,Y,i5⟩
  refine⟨Sum.inr (((N:Int),c),(aL m,(K,l))),?_,.inr ⟨c,l,rfl,W,U,λe pc O=>?_,Y,i5⟩⟩
  ·rw[yy2];show qbp_B4 10000 (N:Int) c (L:Int) m.recs m.funcs m.imps m.ints m.texts K l=_;unfold qbp_B4;rw[aB,decide_eq_false (by have:=W.len;simp only at this;omega),yg]
  ·have el:l=mp:=keep U e;rw[el];exact Z e pc (by rw[yy2];exact O)
theorem VG(m:aX){V:Nat}{f:gH}{L:Nat}{mp:List bT}(hc:bQ m=0)(hf:m.funcs[V]?=some f)(Z:L=f.2.2.2.2.length)(W:L≤64)(hI:pI L mp)(O:List (List bT)):
  ∃y,qbp_W2 10000 (((V:Int),true),(aL m,(O,mp)))=some y/\((∃H,y=Sum.inl (([],false),(aL m,(O,H)))/\∀R,PI m f R->lP mp R->False)\/
   ∃H,y=Sum.inr ((V:Int),(aL m,(O,H)))/\pI L H/\(∀pc,pc<L->sU m f H pc=true)/\(∀R,PI m f R->lP mp R->lP H R)/\(jV mp->jV H)):=by
 refine ID (I:=λs=> ∃(c:Bool) (l:List bT),s=(((V:Int),c),(aL m,(O,l)))/\pI L l/\(c=false->∀pc,pc<L->sU m f l pc=true)/\(∀R,PI m f R->lP mp R->lP l R)/\(jV mp->jV l)) (m:=λs=>if s.1.2=true then 1+(25*L-mu s.2.2.2)else 0) ?_ 10000 _ ⟨true,mp,rfl,hI,(λe=>by cases e),(λR _ h=>h),id⟩ ?_
 ·rintro s ⟨c,l,rfl,i1,i2,Y,i4⟩
  cases c with
  |false=>exact .inr ⟨_,rfl,.inr ⟨l,rfl,i1,i2 rfl,Y,i4⟩⟩
  |true=>
   obtain⟨y,hy,hor⟩:=Vs m hc hf Z W i1 O;have hb:qbp_B2 10000 (V:Int) true m.recs m.funcs m.imps m.ints m.texts O l=((qbp_W4 10000 (((V:Int),(false,0)),(aL m,(O,l)))).bind λM=>Sum.rec (λK=>some (Sum.inr (Sum.inl ((K.1.1,K.1.2),(K.2.1,(K.2.2.1,K.2.2.2)))))) (λJ=>some (Sum.inl ((J.1.1,J.1.2),(J.2.1,(J.2.2.1,J.2.2.2))))) M):=rfl;rw[hy]at hb;rcases hor with ⟨H,rfl,j5⟩|⟨U,H,rfl,j1,j2,j3,j4,j6⟩
   ·exact .inr ⟨_,hb,.inl ⟨H,rfl,λR hR N=>j5 R hR (Y R hR N)⟩⟩
   ·refine .inl ⟨_,hb,⟨U,H,rfl,j1,j3,(λR hR N=>j4 R hR (Y R hR N)),λh=>j6 (i4 h)⟩,?_⟩;have hmu:=NY H j1.all;rw[j1.len]at hmu;rcases j2.or with ⟨h,_⟩|⟨h,h'⟩
    ·show(if U=true then 1+(25*L-mu H)else 0)<1+(25*L-mu l)
     rw[h,if_neg (by decide)];omega
    ·show(if U=true then 1+(25*L-mu H)else 0)<1+(25*L-mu l)
     rw[if_pos h];omega
 ·show(if true=true then 1+(25*L-mu mp)else 0)<10000
  rw[if_pos rfl];omega
def q7(m:aX)(f:gH)(sh:List bT):Prop:=pI f.2.2.2.2.length sh/\∀pc,pc<f.2.2.2.2.length->sU m f sh pc=true
theorem BR{m:aX}{f:gH}{sh:List bT}(h:q7 m f sh):sJ m f sh=true:=by
 unfold sJ;rw[yc,yc,decide_eq_true_eq,ya1];refine⟨⟨h.1.len,?_⟩,λk H=>h.2 k (by rw[<-h.1.len];exact List.mem_range.1 H)⟩;have:=h.1.fst
 match sh,this with
 | [],h=>cases h
 |x::r,h=>
  obtain rfl:x=(true,[]):=by simpa using h
  rfl
theorem IU{L:Nat}(hL:1≤L):pI L ((List.replicate L ((false,[]):bT)).set 0 (true,[])):=⟨by simp,by rw[yt (by simp;omega)],λx H=>by
 rcases ym2 H with h|rfl
 ·rw[List.eq_of_mem_replicate h];exact⟨Oq,by simp⟩
 ·exact⟨Oq,by simp⟩⟩
theorem De(m:aX)(hm:fR m=true): ∃M ok,qbp 10000 m.recs m.funcs m.imps m.ints m.texts=some (M,ok)/\
  ((ok=false/\M= []/\∀Rs,iG m Rs=true->False)\/(ok=true/\M.length=m.funcs.length/\∀(k:Nat) (f:gH),m.funcs[k]?=some f->∃sh,M[k]?=some sh/\q7 m f sh/\jV sh/\∀R,sJ m f R=true->lP sh R)):=by
 have hc:=fO hm;have hfit:=(eA hc).1;have hfs:=hfit;simp only[c8,yc,decide_eq_true_eq,ya1]at hfs;obtain⟨_,_,_,hf8,hff,_⟩:=hfs
 have hloop: ∃y,qbp_W0 10000 (0,(aL m,([]:List (List bT))))=some y/\((∃(K:List (List bT)) (l:List bT),y=Sum.inl (([],false),(aL m,(K,l)))/\∀Rs,iG m Rs=true->False)\/
   ∃K:List (List bT),y=Sum.inr (aL m,K)/\K.length=m.funcs.length/\∀(k:Nat) (f:gH),m.funcs[k]?=some f->∃sh,K[k]?=some sh/\q7 m f sh/\jV sh/\∀R,sJ m f R=true->lP sh R):=by
  refine fI (xs:=m.funcs) (mk:=λi (a:List (List bT))=>((i:Int),(aL m,a))) (I:=λi a=>a.length=i/\∀(k:Nat) (f:gH),k<i->m.funcs[k]?=some f->∃sh,a[k]?=some sh/\q7 m f sh/\jV sh/\∀R,sJ m f R=true->lP sh R) ?_ ?_ m.funcs.length 0 10000 [] (by omega) ⟨rfl,λk f hk=>by omega⟩ (by omega)
  ·intro i a f O ⟨i1,i2⟩;have hi:i<m.funcs.length:=(yd.1 O).1;have hfm:=hff f (yj O);simp only[qP,yc,decide_eq_true_eq]at hfm;obtain⟨_,_,_,Z,hc64,_⟩:=hfm;have hst:=IU Z;obtain⟨y,hy,hor⟩:=VG m hc O rfl hc64 hst a
   have V:qbp_B0 10000 (i:Int) m.recs m.funcs m.imps m.ints m.texts a=((qbp_W2 10000 (((i:Int),true),(aL m,(a,(List.replicate f.2.2.2.2.length ((false,[]):bT)).set 0 (true,[]))))).bind λY=>
     Sum.rec (λJ=>some (Sum.inr (Sum.inl ((J.1.1,J.1.2),(J.2.1,(J.2.2.1,J.2.2.2)))))) (λH=>bif Nat.ble (List.length (H.2.2.1++ [H.2.2.2])) 4294967296 then some (Sum.inl ((aK .i64 H.1 1),(H.2.1,H.2.2.1++ [H.2.2.2])))else none) Y):=by
    unfold qbp_B0
    rw[aB,decide_eq_true (by omega),yh,aE,O,ya,aB,yz,beq_self_eq_true,decide_eq_true (by omega),yl1 (by omega),yj1,yj1,yh,
     decide_eq_true (by rw[yi3];omega),yh,yt1,if_pos (by omega),ya]
   rcases hor with ⟨N,rfl,j3⟩|⟨N,rfl,j1,j2,j3,j4⟩
   ·exact .inr ⟨_,V.trans (by rw[hy];rfl),.inl ⟨a,N,rfl,λRs hRs=>by
     obtain⟨R,hR⟩:=Nt hRs O;obtain⟨g1,g2⟩:=zN Z hR
     exact j3 R g1 g2⟩⟩
   ·refine .inl ⟨a++ [N],?_,by simp[i1],λk g hk hg=>?_⟩
    ·refine V.trans ?_;rw[hy,ya]
     show(bif Nat.ble (List.length (a++ [N])) 4294967296 then some (Sum.inl ((aK .i64 (i:Int) 1),(aL m,a++ [N])))else none)=_
     rw[yl1 (by simp;omega),yh,aW (by omega) (by omega)];rfl
    ·by_cases hki:k=i
     ·subst hki;rw[O]at hg;obtain rfl:=yb hg;exact⟨N,by rw[<-i1];simp,⟨j1,j2⟩,j4 (Km _),λR hR=>by obtain⟨g1,g2⟩:=zN Z hR;exact j3 R g1 g2⟩
     ·obtain⟨sh,h1,h2⟩:=i2 k g (by omega) hg;exact⟨sh,by rw[yq (yd.1 h1).1];exact h1,h2⟩
  ·intro a ⟨i1,i2⟩;refine⟨Sum.inr (aL m,a),?_,.inr ⟨a,rfl,i1,λk f hk=>i2 k f (yd.1 hk).1 hk⟩⟩;show qbp_B0 10000 (m.funcs.length:Int) m.recs m.funcs m.imps m.ints m.texts a=_;unfold qbp_B0;rw[aB,decide_eq_false (by omega),yg]
 obtain⟨y,hy,hor⟩:=hloop;have U:qbp 10000 m.recs m.funcs m.imps m.ints m.texts=(qbp_W0 10000 (0,(aL m,([]:List (List bT))))).bind λr1025=>Sum.rec (λW=>some (W.1.1,W.1.2)) (λv1027=>some (v1027.2,true)) r1025:=rfl;rw[hy]at U;rcases hor with ⟨K,l,rfl,h1⟩|⟨K,rfl,h1,h2⟩
 ·exact⟨_,_,U,.inl ⟨rfl,rfl,h1⟩⟩
 ·exact⟨_,_,U,.inr ⟨rfl,h1,h2⟩⟩
theorem PY{m:aX}(hm:fR m=true){H:List (List bT)}(K:H.length=m.funcs.length)(h: ∀(k:Nat) (f:gH),m.funcs[k]?=some f->∃sh,H[k]?=some sh/\q7 m f sh):iG m H=true:=by
 unfold iG;rw[hm,yq1,decide_eq_true K,yq1,ya1];intro k O;have J:k<m.funcs.length:=by rw[<-K];exact List.mem_range.1 O
 obtain⟨sh,N,M⟩:=h k _ (ye J);rw[Mh N (ye J)];exact BR M
end Sx
end
section
namespace Sx
open Go Go.Ab
theorem RF{sh:List bT}{q:List Int}{k:Nat}{x:bT}{a:List cQ}{r:List bT×List Int}(h:BO sh q k x a=some r):r.1.length=sh.length/\r.2.length≤q.length+1:=by
 unfold BO at h;split at h
 ·obtain rfl:=yb h;simp
 ·split at h
  ·cases h
  ·split at h<;>(obtain rfl:=yb h;simp)
theorem V2(n:Nat)(hn:500≤n)(pc:Int)(a:List cQ)(ha:a.length≤200): ∀(ts H:List Int) (c:UL) (sh:List bT) (U q:List Int) (j:Nat),QR c.2.2.2.2.2.2.1 c.2.2.2.2.2.2.2 U q->q.length+ts.length≤100000->(∀t∈ts,0≤t/\t<(sh.length:Int))->
  H.length+ts.length≤1000->ts.length<j->
  ∃y,aM (λs=>qr_B0 n s.1.1 s.1.2.1 s.1.2.2.1 s.1.2.2.2.1 s.1.2.2.2.2 s.2.1 s.2.2.1 s.2.2.2) j ((pc,(a,(H++ts,((((H++ts).length:Nat):Int),((H.length:Nat):Int))))),(c,(sh,U)))=some y/\
   (match vT a ts sh q with
   |none=> ∃st,y=Sum.inl ((pc,4),st)\/y=Sum.inr (Sum.inl ((pc,4),st))\/y=Sum.inr (Sum.inr (Sum.inl ((pc,4),st)))
   |some r=> ∃o' Y M,QR o' Y M r.2/\y=Sum.inr (Sum.inr (Sum.inr ((c.1,(c.2.1,(c.2.2.1,(c.2.2.2.1,(c.2.2.2.2.1,(c.2.2.2.2.2.1,(o',Y))))))),(r.1,M)))))
 | [],H,c,sh,U,q,j+1,hq,_,_,_,_=>by
  refine⟨Sum.inr (Sum.inr (Sum.inr (c,(sh,U)))),cA ?_,_,_,_,hq,rfl⟩;show qr_B0 n pc a (H++ []) (((H++ []).length:Nat):Int) ((H.length:Nat):Int) c sh U=_;unfold qr_B0;rw[decide_eq_false (by simp),yg]
 |t::ts,H,c,sh,U,q,j+1,hq,hql,ht,hp,hj=>by
  obtain⟨k,rfl⟩:=yc3 (ht t (yn ..)).1;have hkl:k<sh.length:=by have:=(ht _ (yn ..)).2;omega
  have hk:sh[k]?=some sh[k]:=ye hkl;obtain⟨y,hy,hm⟩:=Ve n hn c hq (by simp only[yw]at hql;omega) hk ha;have g2:aF (H++(k:Int)::ts) ((H.length:Nat):Int)=some (k:Int):=by rw[aE];simp
  have J:qr_B0 n pc a (H++(k:Int)::ts) (((H++(k:Int)::ts).length:Nat):Int) ((H.length:Nat):Int) c sh U=(qc n (k:Int) a c sh U).bind λr527=>
    Sum.rec (λK=>bif(!K.1)then some (Sum.inr (Sum.inl ((pc,4),K.2)))else some (Sum.inl ((pc,(a,(H++(k:Int)::ts,((((H++(k:Int)::ts).length:Nat):Int),((H.length+1:Nat):Int))))),K.2))) (λW=>
     Sum.rec (λN=>bif(!N.1)then some (Sum.inr (Sum.inr (Sum.inl ((pc,4),N.2))))else some (Sum.inl ((pc,(a,(H++(k:Int)::ts,((((H++(k:Int)::ts).length:Nat):Int),((H.length+1:Nat):Int))))),N.2))) (λO=>
      bif(!O.1)then some (Sum.inr (Sum.inr (Sum.inr (Sum.inl ((pc,4),O.2)))))else some (Sum.inl ((pc,(a,(H++(k:Int)::ts,((((H++(k:Int)::ts).length:Nat):Int),((H.length+1:Nat):Int))))),O.2))) W) r527:=by
   unfold qr_B0;rw[decide_eq_true (by rw[yi,yw];omega),yh,g2,ya,aW (by simp only[yw]at hp;omega) (by simp only[yw]at hp;omega)];rfl
  rw[hy,ya]at J;simp only[vT,yz,hk];cases V:BO sh q k sh[k] a with
  |none=>
   rw[V]at hm;subst hm;exact⟨_,cA J,(c,(sh,U)),.inr (.inl rfl)⟩
  |some r=>
   rw[V]at hm;obtain⟨o',Y,M,hq',hor⟩:=hm;obtain⟨l1,l2⟩:=RF V
   have hn1:qr_B0 n pc a (H++(k:Int)::ts) (((H++(k:Int)::ts).length:Nat):Int) ((H.length:Nat):Int) c sh U=some (Sum.inl ((pc,(a,(H++(k:Int)::ts,((((H++(k:Int)::ts).length:Nat):Int),((H.length+1:Nat):Int))))),
     ((c.1, (c.2.1, (c.2.2.1, (c.2.2.2.1, (c.2.2.2.2.1, (c.2.2.2.2.2.1, (o', Y))))))), (r.1, M)))) := by
    rcases hor with rfl|rfl<;>exact J
   obtain⟨y',Z,hm'⟩:=V2 n hn pc a ha ts (H++ [(k:Int)]) (c.1,(c.2.1,(c.2.2.1,(c.2.2.2.1,(c.2.2.2.2.1,(c.2.2.2.2.2.1,(o',Y))))))) r.1 M r.2 j hq' (by simp only[yw]at hql;omega)
    (λt h=>by rw[l1];exact ht t (yk _ h)) (by simp only[yi,yw,yz2]at hp⊢;omega) (by simp only[yw]at hj;omega)
   rw[yw1,show(H++ [(k:Int)]).length=H.length+1 by simp]at Z;exact⟨y',(cB hn1).trans Z,hm'⟩
theorem Wy{m:aX}{J:Nat}{f:gH}(hc:bQ m=0)(hf:m.funcs[J]?=some f){sh:List bT}{pc o n:Nat}{q V:List Int}(hI:R0 m f sh ((pc:Int)::q))(hq:QR o n V ((pc:Int)::q))(hql:q.length≤90000):
  ∃y,qr 10000 (QZ m (J:Int) o n) sh V=some y/\(match Qu m f sh pc q with
   |none=> ∃st,y=Sum.inl (((pc:Int),4),st)\/y=Sum.inr (((pc:Int),4),st)
   |some r=> ∃W O H,QR W O H r.2/\y=Sum.inr ((0,0),(QZ m (J:Int) W O,(r.1,H)))):=by
 obtain⟨k,x,hk,K,hx1⟩:=hI.seen _ (yn ..);obtain rfl:pc=k:=by omega
 have hsl:pc<sh.length:=(yd.1 K).1;have hpl:pc<f.2.2.2.2.length:=by rw[<-hI.inv.len];exact hsl
 obtain⟨i,hi⟩: ∃i,f.2.2.2.2[pc]?=some i:=⟨_,ye hpl⟩
 have Y:=hI.inv.all x (yj K);obtain⟨e1,_,_,q1,q2,q3⟩:=jK m J pc f i x.2 hc hf hi (by omega);obtain⟨w1,w2⟩:=HV hc hf hi (by omega) Y.1;obtain⟨h1,h2,h3⟩:=hq.head;have d1:decide ((0:Int)<((n:Nat):Int))=true:=decide_eq_true (by omega);have d2:decide ((1:Int)≤((n:Nat):Int))=true:=decide_eq_true (by omega);have d3:decide ((0:Int)≤((pc:Nat):Int))=true:=decide_eq_true (by omega);have d4:decide (((pc:Nat):Int)<((sh.length:Nat):Int))=true:=decide_eq_true (by omega);have N:sh.set pc (x.1,x.2)=sh:=H6 K;unfold Qu;simp only[K,hi];unfold qr;simp only[d1,d2,d3,d4,ya2,h2,K,N,ya,yh,yj1,yz,yr3 pc,e1];by_cases U:(bL m f i (pc:Int) x.2).2.2=0
 ·rw[if_pos U,U,show((0:Int) !=0)=false from rfl,yg];obtain⟨y,hy,hm⟩:=V2 10000 (by omega) (pc:Int) (bL m f i (pc:Int) x.2).1 (by omega) (bL m f i (pc:Int) x.2).2.1 [] (QZ m (J:Int) (o+1) (n-1)) sh V q 10000 h3 (by omega) (λt ht=>by rw[hI.inv.len];exact q3 t ht) (by simp;omega) (by omega);have hy':qr_W0 10000 (((pc:Int),((bL m f i (pc:Int) x.2).1,((bL m f i (pc:Int) x.2).2.1,(aC (bL m f i (pc:Int) x.2).2.1,0)))),(QZ m (J:Int) (o+1) (n-1),(sh,V)))=some y:=hy;rw[show((m.recs,m.funcs,m.imps,m.ints,m.texts,(J:Int),o+1,n-1):UL)=QZ m (J:Int) (o+1) (n-1)from rfl,hy',ya];cases M:vT (bL m f i (pc:Int) x.2).1 (bL m f i (pc:Int) x.2).2.1 sh q with
  |none=>
   rw[M]at hm;obtain⟨st,rfl|rfl|rfl⟩:=hm<;>exact⟨_,rfl,st,.inr rfl⟩
  |some r=>
   rw[M]at hm;obtain⟨W,O,H,Z,rfl⟩:=hm;exact⟨_,rfl,W,O,H,Z,rfl⟩
 ·rw[if_neg U,show((bL m f i (pc:Int) x.2).2.2 !=0)=true by simpa using U,yh];exact⟨_,rfl,_,.inl rfl⟩
theorem V1{m:aX}{O:Nat}{f:gH}(hc:bQ m=0)(hf:m.funcs[O]?=some f): ∀(j:Nat) (sh:List bT) (q N:List Int) (o n:Nat),R0 m f sh q->QR o n N q->jV sh->q.length+25*f.2.2.2.2.length<j+mu sh->q.length+25*f.2.2.2.2.length≤80000+mu sh->
    ∃y,aM (qa_M500x1 10000) j (Sum.inl (QZ m (O:Int) o n,(sh,N)))=some y/\
      ((∃ (pc : Nat) (st : UL × List bT × List Int), (y = Sum.inl (((pc : Int), 4), st) ∨ y = Sum.inr (Sum.inl (((pc : Int), 4), st))) ∧ pc < f.2.2.2.2.length ∧ ∀ R, PI m f R → lP sh R → False) ∨
       ∃c K U,y=Sum.inl ((0,0),(c,(K,U)))/\q7 m f K/\jV K/\∀R,PI m f R->lP sh R->lP K R)
  |0,sh,q,N,o,n,hI,_,_,h,_=>by
    exfalso;have:=NY sh hI.inv.all;rw[hI.inv.len]at this;omega
  |j+1,sh,[],N,o,n,hI,hq,hN,_,_=>by
    refine⟨Sum.inl ((0,0),(QZ m (O:Int) o n,(sh,N))),cA ?_,.inr ⟨_,_,_,rfl,⟨hI.inv,λpc hp=>?_⟩,hN,λR _ h=>h⟩⟩
    · show qa_B500x1q0 10000 (QZ m (O:Int) o n) sh N=_
      unfold qa_B500x1q0;have hn:n=0:=hq.len.symm;subst hn;rfl
    · rcases hI.done pc hp with h|h
      · cases h
      · exact h
  |j+1,sh,t::q,N,o,n,hI,hq,hN,hj,hb=>by
    obtain⟨pc,x,rfl,hx,hx1⟩:=hI.seen t (yn ..);have hmu:=NY sh hI.inv.all;rw[hI.inv.len]at hmu;rw[yw]at hj hb;obtain⟨y,hy,hm⟩:=Wy hc hf hI hq (by omega);have W: ¬(((n:Nat):Int)==0)=true:=by have:=hq.len;rw[yw]at this;rw[beq_iff_eq];omega
    have J:qa_M500x1 10000 (Sum.inl (QZ m (O:Int) o n,(sh,N)))=(qr 10000 (QZ m (O:Int) o n) sh N).bind λr=>Sum.rec (λu=>bif(u.1.2 !=0)then some (Sum.inr (Sum.inl u))else some (Sum.inl (Sum.inl u.2))) (λv=>bif(v.1.2 !=0)then some (Sum.inr (Sum.inr (Sum.inl v)))else some (Sum.inl (Sum.inl v.2))) r:=by
      show qa_B500x1q0 10000 (QZ m (O:Int) o n) sh N=_;unfold qa_B500x1q0;rw[Bool.not_eq_true]at W;rw[W,yg]
    rw[hy,ya]at J;have hpl:pc<f.2.2.2.2.length:=by rw[<-hI.inv.len];exact(yd.1 hx).1
    cases M:Qu m f sh pc q with
    |none=>
      rw[M]at hm;have hno: ∀R,PI m f R->lP sh R->False:=λR hR H=>by
        obtain⟨r,hr,_⟩:=OU hc hf hI hR H;rw[M]at hr;cases hr
      obtain⟨st,rfl|rfl⟩:=hm
      · exact⟨_,cA J,.inl ⟨pc,st,.inl rfl,hpl,hno⟩⟩
      · exact⟨_,cA J,.inl ⟨pc,st,.inr rfl,hpl,hno⟩⟩
    |some r=>
      rw[M]at hm;obtain⟨o',n',U,hq',rfl⟩:=hm;obtain⟨i1,i2,i3,i4⟩:=U0 hc hf hI M;have hmu':=NY r.1 i1.inv.all;rw[i1.inv.len]at hmu';obtain⟨y',hy',hor⟩:=V1 hc hf j r.1 r.2 U o' n' i1 hq' (i4 hN) (by omega) (by omega);refine⟨y',(cB J).trans hy',?_⟩;have Y: ∀R,PI m f R->lP sh R->lP r.1 R:=λR hR H=>by
        obtain⟨r',hr,V⟩:=OU hc hf hI hR H;rw[M]at hr;obtain rfl:=yb hr;exact V
      rcases hor with ⟨pc',st,h1,h2,h3⟩|⟨c,K,Z,h1,h2,h3,h4⟩
      · exact .inl ⟨pc',st,h1,h2,λR hR H=>h3 R hR (Y R hR H)⟩
      · exact .inr ⟨c,K,Z,h1,h2,h3,λR hR H=>h4 R hR (Y R hR H)⟩
theorem RB{m:aX}{f:gH}(hL:1≤f.2.2.2.2.length):R0 m f ((List.replicate f.2.2.2.2.length ((false,[]):bT)).set 0 (true,[])) [0]:=by
 have H:=IU hL;refine⟨H,λt ht=>?_,λk J=>?_⟩
 ·rw[yi1.1 ht];exact⟨0,(true,[]),rfl,by rw[yt (by simp;omega)],rfl⟩
 ·by_cases e:k=0
  ·subst e;exact .inl (yi1.2 rfl)
  ·refine .inr (CQ (x:=(false,[])) ?_ (ye J) (by simp) λh=>by cases h);rw[yp (λh=>e h.symm),yt1,if_pos J]
theorem N0{m:aX}{K:Nat}{f:gH}(hc:bQ m=0)(hf:m.funcs[K]?=some f)(hL:1≤f.2.2.2.2.length)(hL64:f.2.2.2.2.length≤64):
    ∃y,qa 10000 (m.recs,(m.funcs,(m.imps,(m.ints,(m.texts,(K:Int))))))=some y/\
      ((∃ (pc : Nat) (st : UL × List bT × List Int), y = Sum.inl (((pc : Int), 4), st) ∧ pc < f.2.2.2.2.length ∧ ∀ R, sJ m f R = true → False) ∨
       ∃c J M,y=Sum.inl ((0,0),(c,(J,M)))/\q7 m f J/\jV J/\∀R,sJ m f R=true->lP J R):=by
  obtain⟨y,hy,Y⟩:=V1 hc hf 10000 ((List.replicate f.2.2.2.2.length ((false,[]):bT)).set 0 (true,[])) [0] [0] 0 1 (RB hL) (QR.whole [0]) (Km _) (by simp;omega) (by simp;omega);have H:qa 10000 (m.recs,(m.funcs,(m.imps,(m.ints,(m.texts,(K:Int))))))=(qa_W500x1 10000 (Sum.inl (QZ m (K:Int) 0 1,((List.replicate f.2.2.2.2.length ((false,[]):bT)).set 0 (true,[]),[0])))).bind λr=>Sum.rec (λu=>some (Sum.inl u)) (λv=>Sum.rec (λu=>some (Sum.inl u)) (λv=>some (Sum.inr v)) v) r:=by
    unfold qa;have Z:decide ((0:Int)≤((f.2.2.2.2.length:Nat):Int))=true:=decide_eq_true (by omega);have d2:Nat.ble f.2.2.2.2.length 4294967296=true:=yl1 (by omega);simp only[aE,hf,ya,aB,beq_self_eq_true,Z,d2,yj1,yh,yz];have hm:qo 10000 0 ([]:List cQ) (m.recs,(m.funcs,(m.imps,(m.ints,(m.texts,(K:Int)))))) (List.replicate f.2.2.2.2.length ((false,[]):bT))=some (Sum.inl (true,(QZ m (K:Int) 0 1,((List.replicate f.2.2.2.2.length ((false,[]):bT)).set 0 (true,[]),[0])))):=by
      unfold qo;have d3:decide ((0:Int)<(((List.replicate f.2.2.2.2.length ((false,[]):bT)).length:Nat):Int))=true:=decide_eq_true (by simp;omega);have hg:(List.replicate f.2.2.2.2.length ((false,[]):bT))[0]?=some (false,[]):=by rw[yt1,if_pos (by omega)]
      have hs: ∀v:bT,((List.replicate f.2.2.2.2.length ((false,[]):bT)).set 0 v)[0]?=some v:=λv=>by rw[yt (by simp;omega)]
      simp only[Int.le_refl,decide_true,d3,yj1,yh,Int.toNat_zero,hg,ya,yo2,KK 10000 [] (by simp),OB,hs,List.set_set];rfl
    rw[hm,ya]
    show(bif(true&&decide ((0:Int)≤((f.2.2.2.2.length:Nat):Int)))&&true then _ else none)=_
    rw[Z];rfl
  have W:qa_W500x1 10000 (Sum.inl (QZ m (K:Int) 0 1,((List.replicate f.2.2.2.2.length ((false,[]):bT)).set 0 (true,[]),[0])))=some y:=hy;rw[W,ya]at H;rcases Y with ⟨pc,st,rfl|rfl,V,U⟩|⟨c,J,M,rfl,V,U,h4⟩
  · exact⟨_,H,.inl ⟨pc,st,rfl,V,λR hR=>by obtain⟨N,O⟩:=zN hL hR;exact U R N O⟩⟩
  · exact⟨_,H,.inl ⟨pc,st,rfl,V,λR hR=>by obtain⟨N,O⟩:=zN hL hR;exact U R N O⟩⟩
  · exact⟨_,H,.inr ⟨c,J,M,rfl,V,U,λR hR=>by obtain⟨N,O⟩:=zN hL hR;exact h4 R N O⟩⟩
end Sx
end
section
namespace Sx
open Go Go.Ab
def Tv(m:aX)(f:gH)(sh:List bT):Prop:=q7 m f sh/\jV sh/\∀R,sJ m f R=true->lP sh R
def jU(m:aX)(maps:List (List bT)):Prop:=maps.length=m.funcs.length/\∀(k:Nat) (f:gH),m.funcs[k]?=some f->∃sh,maps[k]?=some sh/\Tv m f sh
theorem OT(m:aX)(hm:fR m=true): ∃y,qat_W1 10000 ((aC m.funcs,0),(aL m,([]:List (List bT))))=some y/\
    ((∃ (k pc : Nat) (f : gH) (a : List (List bT)) (c : UL) (sh : List bT) (q : List Int), y = Sum.inl (((k : Int), ((pc : Int), 4)), (aL m, (a, (c, (sh, (q, [])))))) ∧ m.funcs[k]? = some f ∧ pc < f.2.2.2.2.length ∧ ∀ R, sJ m f R = true → False) ∨
     ∃N,y=Sum.inr (Sum.inr (aL m,N))/\jU m N):=by
  have hc:=fO hm;have M:=(eA hc).1;simp only[c8,yc,decide_eq_true_eq,ya1]at M;obtain⟨_,_,_,hf8,hff,_⟩:=M;refine fI (xs:=m.funcs) (mk:=λi (a:List (List bT))=>((aC m.funcs,(i:Int)),(aL m,a))) (I:=λi a=>a.length=i/\∀(k:Nat) (f:gH),k<i->m.funcs[k]?=some f->∃sh,a[k]?=some sh/\Tv m f sh) ?_ ?_ m.funcs.length 0 10000 [] (by omega) ⟨rfl,λk f h=>absurd h (by omega)⟩ (by omega)
  · intro i a f H ⟨W,i2⟩
    have hi:i<m.funcs.length:=(yd.1 H).1;have O:=hff f (yj H);simp only[qP,yc,decide_eq_true_eq]at O;obtain⟨_,_,_,hc1,U,_⟩:=O;obtain⟨y,hy,hor⟩:=N0 hc H hc1 U
    have J: ∀(u:(Int×Int)×UL×List bT×List Int),y=Sum.inl u->qat_B1 10000 (aC m.funcs) (i:Int) m.recs m.funcs m.imps m.ints m.texts a=(bif(u.1.2 !=0)then some (Sum.inr (Sum.inl (((i:Int),u.1),(aL m,(a,(u.2.1,(u.2.2.1,(u.2.2.2,[]))))))))
        else bif(Nat.ble (List.length (a++ [u.2.2.1])) 4294967296)then some (Sum.inl ((aC m.funcs,aK .i64 (i:Int) 1),(aL m,a++ [u.2.2.1])))else none):=by
      rintro u rfl
      unfold qat_B1;rw[decide_eq_true (by rw[aB];omega),yh,hy,ya]
    rcases hor with ⟨pc,st,rfl,V,Y⟩|⟨c,K,m2',rfl,V,Y,h4⟩
    · exact .inr ⟨_,(J _ rfl).trans rfl,.inl ⟨i,pc,f,a,st.1,st.2.1,st.2.2,rfl,H,V,Y⟩⟩
    · refine .inl ⟨a++ [K],(J _ rfl).trans ?_,by simp[W],λk g hk Z=>?_⟩
      · show(bif(Nat.ble (List.length (a++ [K])) 4294967296)then some (Sum.inl ((aC m.funcs,aK .i64 (i:Int) 1),(aL m,a++ [K])))else none)=_
        rw[yl1 (by simp;omega),yh,aW (by omega) (by omega)];rfl
      · by_cases hki:k=i
        · subst hki
          rw[H]at Z;obtain rfl:=yb Z;exact⟨K,by rw[<-W];simp,V,Y,h4⟩
        · obtain⟨sh,h1,V⟩:=i2 k g (by omega) Z
          exact⟨sh,by rw[yq (yd.1 h1).1];exact h1,V⟩
  · intro a ⟨W,i2⟩
    refine⟨Sum.inr (Sum.inr (aL m,a)),?_,.inr ⟨a,rfl,W,λk f hk=>i2 k f (yd.1 hk).1 hk⟩⟩;show qat_B1 10000 (aC m.funcs) (m.funcs.length:Int) m.recs m.funcs m.imps m.ints m.texts a=_;unfold qat_B1;rw[aB,decide_eq_false (by omega),yg]
theorem AJ(m:aX)(U:Hi m): ∃H J pc e,qat 10000 m.recs m.funcs m.imps m.ints m.texts=some (H,(J,(pc,e)))/\
    ((bQ m ≠ 0 ∧ H = [] ∧ J = 0 ∧ pc = 0 ∧ e = bQ m) ∨ (bQ m = 0 ∧ fR m = false ∧ H = [] ∧ J = 0 ∧ pc = 0 ∧ e = 1) ∨
     (fR m=true/\H= []/\e=4/\(∃(k p:Nat) (f:gH),J=(k:Int)/\pc=(p:Int)/\m.funcs[k]?=some f/\p<f.2.2.2.2.length)/\∀O,iG m O=true->False)\/
     (fR m = true ∧ J = 0 ∧ pc = 0 ∧ e = 0 ∧ jU m H)) := by
  unfold qat
  rw[OV 10000 m U (by omega),ya];by_cases hc:bQ m=0
  · rw[hc,show((0:Int) !=0)=false from rfl,yg,VH 10000 m U (by omega),ya]
    cases hm:fR m with
    |false=>exact⟨_,_,_,_,rfl,.inr (.inl ⟨rfl,rfl,rfl,rfl,rfl,rfl⟩)⟩
    |true=>
      rw[yf1,yg];obtain⟨y,Y,N⟩:=OT m hm;rw[show(qat_W1 10000 ((aC m.funcs,0),((m.recs,(m.funcs,(m.imps,(m.ints,m.texts)))),([]:List (List bT)))))=some y from Y,ya];rcases N with ⟨k,pc,f,a,c,sh,q,rfl,K,W,V⟩|⟨H,rfl,K⟩
      · exact⟨_,_,_,_,rfl,.inr (.inr (.inl ⟨rfl,rfl,rfl,⟨k,pc,f,rfl,rfl,K,W⟩,λO M=>by obtain⟨R,hR⟩:=Nt M K;exact V R hR⟩))⟩
      · exact⟨_,_,_,_,rfl,.inr (.inr (.inr ⟨rfl,rfl,rfl,rfl,K⟩))⟩
  · rw[show(bQ m !=0)=true by simpa using hc,yh]
    exact⟨_,_,_,_,rfl,.inl ⟨hc,rfl,rfl,rfl,rfl⟩⟩
end Sx
end
section
namespace Sx
open Go Go.Ab
theorem Tl(m:aX)(H:List (List bT))(K:Nat)(sh:List bT)(j:Nat)(R:FR)(Y:R.1.length≤5000)(ht: ∀t∈R.2.1,0≤t/\t<(sh.length:Int))(W:R.2.1.length≤10):
  qbh_W4 10000 ((H,((K:Int),(sh,((j:Int),(R.1,(R.2.1,0)))))),aL m)=some (if R.2.1.all (dI sh R.1)=true then Sum.inr ((H,((K:Int),(sh,(j:Int)))),aL m)else Sum.inl (false,aL m)):=by
 have h:=b8 (xs:=R.2.1) (B:=λs=>qbh_B4 10000 s.1.1 s.1.2.1 s.1.2.2.1 s.1.2.2.2.1 s.1.2.2.2.2.1 s.1.2.2.2.2.2.1 s.1.2.2.2.2.2.2 s.2.1 s.2.2.1 s.2.2.2.1 s.2.2.2.2.1 s.2.2.2.2.2) (mk:=λ(k:Nat)=>((H,((K:Int),(sh,((j:Int),(R.1,(R.2.1,(k:Int))))))),aL m))
  (p:=λt=>!dI sh R.1 t) (found:=λk t=>Sum.inl (false,aL m)) (e:=Sum.inr ((H,((K:Int),(sh,(j:Int)))),aL m)) (λk t M=>?_) ?_ R.2.1.length 0 10000 (by omega) (by omega)
 ·rw[yd2]at h;have J:R.2.1.all (dI sh R.1)=!R.2.1.any (λt=>!dI sh R.1 t):=by rw[List.all_eq_not_any_not]
  rcases h with ⟨V,_,_,_,_,O⟩|⟨V,O⟩
  ·rw[J,V];exact O
  ·rw[J,V];exact O
 ·have hi:=r9 M;obtain⟨x,N⟩:=VI (l:=sh) (ht t (yj M)).1 (ht t (yj M)).2;show qbh_B4 10000 H (K:Int) sh (j:Int) R.1 R.2.1 (k:Int) m.recs m.funcs m.imps m.ints m.texts=_;have U:dI sh R.1 t=(x.1&&bO R.1 x.2):=by unfold dI;rw[N]
  rw[U];unfold qbh_B4;rw[aB,decide_eq_true (by omega),yh,aE,M,ya,N,ya,ya,N,ya,F0 10000 R.1 x.2 Y (by omega),ya,aT (by omega)];cases x.1<;>cases bO R.1 x.2<;>rfl
 ·show qbh_B4 10000 H (K:Int) sh (j:Int) R.1 R.2.1 (R.2.1.length:Int) m.recs m.funcs m.imps m.ints m.texts=_;unfold qbh_B4;rw[aB,decide_eq_false (by omega),yg]
theorem Tu(m:aX)(J:Nat)(f:gH)(sh:List bT)(H:List (List bT))(hc:bQ m=0)(hf:m.funcs[J]?=some f)(hl:sh.length=f.2.2.2.2.length)(hs:sh.length≤200):
  qbh_W2 10000 ((H,((J:Int),(sh,0))),aL m)=some (if(List.range sh.length).all (sU m f sh)=true then Sum.inr ((H,(J:Int)),aL m)else Sum.inl (false,aL m)):=by
 have h:=JS (B:=λs=>qbh_B2 10000 s.1.1 s.1.2.1 s.1.2.2.1 s.1.2.2.2 s.2.1 s.2.2.1 s.2.2.2.1 s.2.2.2.2.1 s.2.2.2.2.2) (mk:=λ(j:Nat)=>((H,((J:Int),(sh,(j:Int)))),aL m))
  (p:=sU m f sh) (found:=λj=>Sum.inl (false,aL m)) (e:=Sum.inr ((H,(J:Int)),aL m)) sh.length (λj Y=>?_) ?_ 10000 (by omega)
 ·rcases h with ⟨U,O⟩|⟨U,j,_,O⟩
  ·rw[U,if_pos rfl];exact O
  ·rw[U,if_neg (by simp)];exact O
 ·show qbh_B2 10000 H (J:Int) sh (j:Int) m.recs m.funcs m.imps m.ints m.texts=_;have M:sh[j]?=some sh[j]:=ye Y;have N:f.2.2.2.2[j]?=some (f.2.2.2.2[j]'(by omega)):=ye _;generalize sh[j]=x at M;generalize f.2.2.2.2[j]'(by omega)=i at N;have V:sU m f sh j=I8 m f sh i (j:Int) x:=by unfold sU;rw[M,N]
  rw[V];unfold qbh_B2 I8;rw[aB,decide_eq_true (by omega),yh,aE,M,ya,aB];by_cases W:x.2.length>8
  ·rw[decide_eq_true (by omega:(x.2.length:Int)>8),decide_eq_true W];rfl
  ·rw[decide_eq_false (by omega: ¬(x.2.length:Int)>8),decide_eq_false W];obtain⟨_,e2,_,Z,l2,ht⟩:=jK m J j f i x.2 hc hf N (by omega);simp only[yg,ya];rw[e2];generalize bL m f i (j:Int) x.2=R at Z l2 ht⊢
   cases hb:x.1 with
   |false=>
    rw[aT (by omega)];rfl
   |true=>
    simp only[yf1,yg,ya,yo2,yq1,yb4];have hW:=Tl m H J sh j R (by omega) (by rw[hl];exact ht) (by omega);rw[show qbh_W4 10000 ((H,((J:Int),(sh,((j:Int),(R.1,(R.2.1,0)))))),(m.recs,(m.funcs,(m.imps,(m.ints,m.texts)))))=_ from hW];by_cases K:R.2.2=0
    ·rw[show(R.2.2 !=0)=false from by rw[K];rfl,show(R.2.2==0)=true from by rw[K];rfl];simp only[yg,yq1];cases R.2.1.all (dI sh R.1)with
     |false=>rfl
     |true=>
      show some (Sum.inl ((H,((J:Int),(sh,aK .i64 (j:Int) 1))),aL m))=_;rw[aT (by omega)];rfl
    ·rw[show(R.2.2 !=0)=true from bne_iff_ne.2 K,show(R.2.2==0)=false from beq_eq_false_iff_ne.2 K];rfl
 ·show qbh_B2 10000 H (J:Int) sh (sh.length:Int) m.recs m.funcs m.imps m.ints m.texts=_;unfold qbh_B2;rw[aB,decide_eq_false (by omega),yg]
theorem Aa(m:aX)(ho:Hi m)(hL:wJ m)(H:List (List bT)):qbh 10000 m.recs m.funcs m.imps m.ints m.texts H=some (iG m H):=by
 unfold qbh iG;rw[nE 10000 m ho hL (by omega),ya];cases hM:fR m with
 |false=>rfl
 |true=>
  have hc:=fO hM;obtain⟨k1,_,_,Z,_⟩:=gM (eA hc).1;simp only[yf1,yg,yq1];rw[Bq];by_cases W:H.length=m.funcs.length
  ·rw[decide_eq_true W];simp only[yf1,yg,yq1];have h:=JS (B:=λs=>qbh_B0 10000 s.1.1 s.1.2 s.2.1 s.2.2.1 s.2.2.2.1 s.2.2.2.2.1 s.2.2.2.2.2) (mk:=λ(j:Nat)=>((H,(j:Int)),aL m))
    (p:=WW m H) (found:=λj=>Sum.inl (false,aL m)) (e:=Sum.inr (aL m)) H.length (λj Y=>?_) ?_ 10000 (by omega)
   ·rcases h with ⟨U,O⟩|⟨U,j,_,O⟩
    ·rw[U,show qbh_W0 10000 ((H,0),_)=_ from O];rfl
    ·rw[U,show qbh_W0 10000 ((H,0),_)=_ from O];rfl
   ·show qbh_B0 10000 H (j:Int) m.recs m.funcs m.imps m.ints m.texts=_;have N:H[j]?=some H[j]:=ye Y;have K:m.funcs[j]?=some (m.funcs[j]'(by omega)):=ye _;generalize H[j]=sh at N;generalize m.funcs[j]'(by omega)=f at K;unfold qbh_B0;rw[Mh N K,aB,decide_eq_true (by omega),yh,aE,N,ya,aE,K,ya,Bq];show _=(if sJ m f sh=true then some (Sum.inl ((H,((j+1:Nat):Int)),aL m))else some (Sum.inr (Sum.inl (false,aL m))))
    by_cases J:sh.length=f.2.2.2.2.length
    ·have hk:=Z f (yj K);rw[decide_eq_true J,yf1,yg]
     match sh,J,N with
     | [],J,_=>exfalso;simp at J;omega
     |x::sh,J,N=>
      rw[show aF (x::sh) 0=some x from rfl,ya,ya,aB];have hW:=Tu m j f (x::sh) H hc K J (by omega);rw[show qbh_W2 10000 ((H,((j:Int),(x::sh,0))),(m.recs,(m.funcs,(m.imps,(m.ints,m.texts)))))=_ from hW];have M:sJ m f (x::sh)=((x.1&&!decide (x.2.length>0))&&(List.range (x::sh).length).all (sU m f (x::sh))):=by
       unfold sJ;rw[decide_eq_true J,yq1]
      rw[M];cases hb:x.1 with
      |false=>rfl
      |true=>
       by_cases V:x.2.length>0
       ·rw[decide_eq_true (by omega:(x.2.length:Int)>0),decide_eq_true V];rfl
       ·rw[decide_eq_false (by omega: ¬(x.2.length:Int)>0),decide_eq_false V];cases(List.range (x::sh).length).all (sU m f (x::sh))with
        |false=>rfl
        |true=>
         show some (Sum.inl ((H,aK .i64 (j:Int) 1),aL m))=_;rw[aT (by omega)];rfl
    ·have M:sJ m f sh=false:=by unfold sJ;rw[decide_eq_false J];rfl
     rw[M,decide_eq_false J];rfl
   ·show qbh_B0 10000 H (H.length:Int) m.recs m.funcs m.imps m.ints m.texts=_;unfold qbh_B0;rw[aB,decide_eq_false (by omega),yg]
  ·rw[decide_eq_false W];rfl
end Sx
end
section
namespace Sx
open Go Go.Ab
theorem H7:qaj 10000=some true:=by kernel_rfl
theorem IC{m:aX}{a b:List (List bT)}(M:jU m a)(J:jU m b):a=b:=by
 refine yg4 λk=>?_;by_cases W:k<m.funcs.length
 ·obtain⟨f,hf⟩: ∃f,m.funcs[k]?=some f:=⟨_,ye W⟩
  obtain⟨x,V,H,Y,O⟩:=M.2 k f hf;obtain⟨y,N,K,U,Z⟩:=J.2 k f hf;rw[V,N,lP.anti H.1 K.1 Y U (O y (BR K)) (Z x (BR H))]
 ·rw[yc1 (by rw[M.1];omega),yc1 (by rw[J.1];omega)]
theorem lQ{m:aX}(hm:fR m=true){a:List (List bT)}(h:jU m a):iG m a=true:=PY hm h.1 λk f hf=>by
 obtain⟨sh,J,H,_⟩:=h.2 k f hf;exact⟨sh,J,H⟩
theorem jL{m:aX}(hm:fR m=true){a:List (List bT)}(h:jU m a):a.length≤8/\∀sh∈a,sh.length≤64/\∀x∈sh,x.2.length≤8:=by
 have H:=(eA (fO hm)).1;simp only[c8,yc,decide_eq_true_eq,ya1]at H;obtain⟨_,_,_,M,N,_⟩:=H;refine⟨by rw[h.1];exact M,λsh O=>?_⟩;obtain⟨k,W⟩:=List.mem_iff_getElem?.1 O;have K:k<m.funcs.length:=by rw[<-h.1];exact(yd.1 W).1
 obtain⟨f,hf⟩: ∃f,m.funcs[k]?=some f:=⟨_,ye K⟩
 obtain⟨x,V,U,_⟩:=h.2 k f hf;rw[W]at V;obtain rfl:=yb V;have J:=N f (yj hf);simp only[qP,yc,decide_eq_true_eq]at J;exact⟨by rw[U.1.len];exact J.2.2.2.2.1,λy Y=>(U.1.all y Y).2⟩
theorem UJ(n:Nat)(hn:6000≤n)(a:List (List bT))(k:Nat)(sh:List bT)(J:a[k]?=some sh)(hl:sh.length≤64)(hs: ∀x∈sh,x.2.length≤8):qaf_W2 n (a,(a,((k:Int),0)))=some (Sum.inr (a,(a,(k:Int)))):=by
 refine eQ (f:=λj:Nat=>(a,(a,((k:Int),(j:Int))))) (k:=sh.length) (λj H=>?_) ?_ sh.length 0 n (by omega) (by omega)
 ·show qaf_B2 n a a (k:Int) (j:Int)=_;have K:sh[j]?=some sh[j]:=ye H;have d:decide ((j:Int)<aC sh)=true:=decide_eq_true (by rw[aB];omega);unfold qaf_B2;simp only[aE,J,K,d,ya,beq_self_eq_true,yf1,yg,yh,Kc n sh[j].2 (by have:=hs _ (yf2 H);omega) hn];rw[aW (by omega) (by omega)];rfl
 ·show qaf_B2 n a a (k:Int) (sh.length:Int)=_;unfold qaf_B2;rw[aE,J,ya,aB,decide_eq_false (by omega),yg]
theorem J9(n:Nat)(hn:6000≤n)(a:List (List bT))(h8:a.length≤8)(hs: ∀sh∈a,sh.length≤64/\∀x∈sh,x.2.length≤8):qaf n a a=some true:=by
 have h:qaf_W0 n (a,(a,0))=some (Sum.inr ()):=by
  refine eQ (f:=λi:Nat=>(a,(a,(i:Int)))) (k:=a.length) (λi J=>?_) ?_ a.length 0 n (by omega) (by omega)
  ·show qaf_B0 n a a (i:Int)=_;have H:a[i]?=some a[i]:=ye J;obtain⟨M,K⟩:=hs _ (yf2 J);unfold qaf_B0;rw[aB,decide_eq_true (by omega),yh,aE,H,ya,ya,Bq,decide_eq_true rfl,yf1,yg,UJ n hn a i a[i] H M K,ya];show some (Sum.inl (a,(a,aK .i64 (i:Int) 1)))=_;rw[aW (by omega) (by omega)];rfl
  ·show qaf_B0 n a a (a.length:Int)=_;unfold qaf_B0;rw[aB,decide_eq_false (by omega),yg]
 unfold qaf;rw[Bq,decide_eq_true rfl,yf1,yg,h,ya]
theorem MW(m:aX)(O:Hi m)(hl:Ow m):kQ 10000 m.recs m.funcs m.imps m.ints m.texts=some true:=by
 unfold kQ;obtain⟨b,hb,hL⟩:=lU 10000 m hl (by omega);rw[hb,ya,H7];cases b with
 |false=>rfl
 |true=>
  have hL:=hL rfl;obtain⟨N,fi,pc,e,hv,h⟩:=AJ m O;rw[yf1,yg,hv,ya,zT 10000 m O hL (by omega),ya];rcases h with ⟨H,rfl,rfl,rfl,rfl⟩|⟨H,h2,rfl,rfl,rfl,rfl⟩|⟨H,rfl,rfl,⟨k,p,f,rfl,rfl,W,V⟩,Z⟩|⟨H,rfl,rfl,rfl,V⟩
  ·rw[show(bQ m !=0)=true by simpa using H,yh,ya];simp only[yh,beq_self_eq_true];rfl
  ·rw[H,show((0:Int) !=0)=false from rfl,yg,nE 10000 m O hL (by omega),h2];rfl
  ·obtain⟨mp,ok,J,K⟩:=De m H;rw[fO H,show((0:Int) !=0)=false from rfl,yg,nE 10000 m O hL (by omega),H,ya,yf1,yg,J,ya];rcases K with ⟨rfl,_,_⟩|⟨rfl,U,M⟩
   ·have hk:=(yd.1 W).1;have d1:decide ((k:Int)≥0)=true:=decide_eq_true (by omega);have d2:decide ((k:Int)<aC m.funcs)=true:=decide_eq_true (by rw[aB];omega);have d3:decide ((p:Int)≥0)=true:=decide_eq_true (by omega);have Y:decide ((p:Int)<aC f.2.2.2.2)=true:=decide_eq_true (by rw[aB];omega);simp only[yo2,yh,ya,aE,W,beq_self_eq_true,d1,d2,d3,Y];rfl
   ·exact(Z mp (lQ H ⟨U,M⟩)).elim
  ·obtain⟨mp,ok,J,K⟩:=De m H;rw[fO H,show((0:Int) !=0)=false from rfl,yg,nE 10000 m O hL (by omega),H,ya,yf1,yg,J,ya];rcases K with ⟨rfl,_,q⟩|⟨rfl,U,M⟩
   ·exact(q N (lQ H V)).elim
   ·rw[IC V ⟨U,M⟩,J9 10000 (by omega) mp (jL H ⟨U,M⟩).1 (jL H ⟨U,M⟩).2];rfl
theorem Mb(m:aX)(K:Hi m)(W:Ow m)(H:List (List bT)):kB 10000 m.recs m.funcs m.imps m.ints m.texts H=some true:=by
 unfold kB;obtain⟨b,V,hL⟩:=lU 10000 m W (by omega);rw[V,ya,H7];cases b with
 |false=>rfl
 |true=>
  rw[yf1,yg,Aa m K (hL rfl) H,ya];obtain⟨O,fi,pc,e,U,h⟩:=AJ m K;rw[U];cases hr:iG m H with
  |false=>cases decide (aC H>10)<;>rfl
  |true=>
   have hm:fR m=true:=by unfold iG at hr;rw[yc]at hr;exact hr.1
   rcases h with ⟨N,_⟩|⟨_,J,_⟩|⟨_,_,_,_,M⟩|⟨_,rfl,rfl,rfl,_⟩
   ·exact(N (fO hm)).elim
   ·rw[hm]at J;cases J
   ·exact(M H hr).elim
   ·cases decide (aC H>10)<;>rfl
theorem TO(other H:List (List bT))(k:Nat)(sh J:List bT)(U:H[k]?=some sh)(V:other[k]?=some J)(M:lP sh J)(hl:sh.length≤64)(hs: ∀x∈sh,x.2.length≤8):
  kF 10000 (other,(H,((k:Int),0)))=some (Sum.inr (other,(H,(k:Int)))):=by
 refine eQ (f:=λj:Nat=>(other,(H,((k:Int),(j:Int))))) (k:=sh.length) (λj N=>?_) ?_ sh.length 0 10000 (by omega) (by omega)
 ·show eX 10000 other H (k:Int) (j:Int)=_;have O:sh[j]?=some sh[j]:=ye N;obtain⟨y,W,hb⟩:=M.2 j _ O;have d:decide ((j:Int)<aC sh)=true:=decide_eq_true (by rw[aB];omega);unfold eX;simp only[aE,U,V,O,W,d,yh,ya,F0 10000 sh[j].2 y.2 (by have:=hs _ (yf2 N);omega) (by omega)];rw[aW (by omega) (by omega)];cases K:sh[j].1 with
  |false=>rfl
  |true=>
   obtain⟨Z,Y⟩:=hb K;rw[Z,Y];rfl
 ·show eX 10000 other H (k:Int) (sh.length:Int)=_;unfold eX;rw[aE,U,ya,aB,decide_eq_false (by omega),yg]
theorem Sc{m:aX}{H:List (List bT)}(h:iG m H=true){k:Nat}{f:gH}(hf:m.funcs[k]?=some f): ∃R,H[k]?=some R/\sJ m f R=true:=by
 unfold iG at h;rw[yc,yc,decide_eq_true_eq,ya1]at h;obtain⟨_,K,M⟩:=h;have J:k<H.length:=by rw[K];exact(yd.1 hf).1
 have:=M k (List.mem_range.2 J);rw[Mh (ye J) hf]at this;exact⟨_,ye J,this⟩
theorem TW{m:aX}(hm:fR m=true)(other H:List (List bT))(M:jU m H)(hr:iG m other=true):kH 10000 (other,(H,0))=some (Sum.inr ()):=by
 obtain⟨h8,hs⟩:=jL hm M;refine eQ (f:=λi:Nat=>(other,(H,(i:Int)))) (k:=H.length) (λi O=>?_) ?_ H.length 0 10000 (by omega) (by omega)
 ·show eV 10000 other H (i:Int)=_;obtain⟨f,hf⟩: ∃f,m.funcs[i]?=some f:=⟨_,ye (by rw[<-M.1];exact O)⟩
  obtain⟨sh,J,_,_,K⟩:=M.2 i f hf;obtain⟨R,hR,N⟩:=Sc hr hf;obtain⟨V,U⟩:=hs sh (yj J);unfold eV;rw[aB,decide_eq_true (by omega),yh,TO other H i sh R J hR (K R N) V U,ya];show some (Sum.inl (other,(H,aK .i64 (i:Int) 1)))=_;rw[aW (by omega) (by omega)];rfl
 ·show eV 10000 other H (H.length:Int)=_;unfold eV;rw[aB,decide_eq_false (by omega),yg]
theorem Lm(m:aX)(M:Hi m)(W:Ow m)(other:List (List bT)):j0 10000 m.recs m.funcs m.imps m.ints m.texts other=some true:=by
 unfold j0;obtain⟨b,V,hL⟩:=lU 10000 m W (by omega);rw[V,ya,H7];cases b with
 |false=>rfl
 |true=>
  have hL:=hL rfl;obtain⟨J,fi,pc,e,U,h⟩:=AJ m M;rw[yf1,yg,U,ya,nE 10000 m M hL (by omega),Aa m M hL other];cases decide (aC other>10)with
  |true=>rfl
  |false=>
   rw[yg];have K:fR m=false->iG m other=false:=λhm=>by unfold iG;rw[hm];rfl
   rcases h with ⟨H,rfl,rfl,rfl,rfl⟩|⟨H,O,rfl,rfl,rfl,rfl⟩|⟨H,rfl,rfl,h4,h6⟩|⟨H,rfl,rfl,rfl,N⟩
   ·have hm:fR m=false:=by
     cases hm:fR m with
     |false=>rfl
     |true=>exact(H (fO hm)).elim
    rw[ya,show(bQ m !=0)=true by simpa using H,hm,K hm];rfl
   ·rw[O,K O];rfl
   ·rw[H];rfl
   ·rw[ya,show((0:Int) !=0)=false from rfl,yg,Aa m M hL J,ya,lQ H N,yf1,yg,ya];cases hr:iG m other with
    |false=>rfl
    |true=>
     rw[yf1,yg,TW H other J N hr];rfl
end Sx
end
section
namespace Sx
open Go Go.Ab
abbrev Xn:Ty:= .cons (.int .i64) (.int .i64)
abbrev XM:Ty:= .cons (.int .i64) (.cons (.int .i64) (.int .i64))
end Sx
end
section
namespace Sx
open Go Go.Ab
abbrev Mt:Ty:= .sl true Xn
abbrev Xv:Ty:= .cons Mt (.cons (.int .i64) (.cons (.int .i64) (.cons Mt (.sl true XM))))
abbrev XE:Ty:= .cons Mt (.cons (.int .i64) (.int .i64))
def Lk:Sh:= .agg (.cons (.sl true false Mt) (.cons (.sl true true Xv) (.cons (.sl true true XE) (.cons (.sl true false (.int .u64)) (.cons (.sl true false .str) .nil)))))
abbrev Nu:=List (List cQ)×List gH×List S2×List Int×List ByteArray
def Gw(d:Nu):aX:=⟨d.1,d.2.1,d.2.2.1,d.2.2.2.1,d.2.2.2.2⟩
theorem Vi{t:cQ}(h:JX Xn t):WC t:=⟨E4 h.1,E4 h.2⟩
theorem oC{l:List cQ}(h:JX Mt l):PQ l/\l.length≤140737488351232:=⟨λt ht=>Vi (h.2 t ht),h.1⟩
theorem kV{d:Nu}(h:oO Lk d):Hi (Gw d)/\Ow (Gw d):=by
 obtain⟨h1,h2,h3,h4,h5,_⟩:JX (.sl false Mt) d.1/\JX (.sl true Xv) d.2.1/\JX (.sl true XE) d.2.2.1/\JX (.sl false (.int .u64)) d.2.2.2.1/\JX (.sl false .str) d.2.2.2.2/\True:=h;obtain⟨W,O⟩:=h1;obtain⟨l2,Y⟩:=h2;obtain⟨l3,e3⟩:=h3;obtain⟨l4,e4⟩:=h4;obtain⟨Z,e5⟩:=h5;have U: ∀f∈d.2.1,JX Mt f.1/\JX (.int .i64) f.2.1/\JX (.int .i64) f.2.2.1/\JX Mt f.2.2.2.1/\f.2.2.2.2.length≤reachBytes:=λf hf=>by
  obtain⟨a1,H,J,K,M⟩:=Y f hf;exact⟨a1,H,J,K,M.1⟩
 have V: ∀f∈d.2.2.1,JX Mt f.1/\JX (.int .i64) f.2.1/\JX (.int .i64) f.2.2:=e3;refine⟨⟨λl N=>(oC (O l N)).1,λf hf=>?_,λf hf=>?_,λv hv=>V5 (e4 v hv)⟩,⟨W,l2,l3,l4,Z,λl N=>(oC (O l N)).2,λf hf=>?_,λf hf=>?_,e5⟩⟩
 ·obtain⟨a1,H,J,K,M⟩:=U f hf;exact⟨(oC a1).1,⟨E4 H,E4 J⟩,(oC K).1⟩
 ·obtain⟨a1,H,J⟩:=V f hf;exact⟨(oC a1).1,⟨E4 H,E4 J⟩⟩
 ·obtain⟨a1,H,J,K,M⟩:=U f hf;exact⟨(oC a1).2,(oC K).2,M⟩
 ·exact(oC (V f hf).1).2
end Sx
end
