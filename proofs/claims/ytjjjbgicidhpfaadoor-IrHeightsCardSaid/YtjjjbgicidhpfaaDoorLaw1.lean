/- Plain laws. -/
import Derived.Test.YtjjjbgicidhpfaaDoorLib10
import Derived.Test.YtjjjbgicidhpfaaDoorVySh
set_option linter.unusedVariables false
set_option linter.unusedSimpArgs false
section
namespace Sx
open Go Go.Ab
theorem r9{A:Type}{xs:List A}{i:Nat}{x:A}(h:xs[i]?=some x):i<xs.length:=(yd.1 h).1
theorem loop_two{A B' X S:Type}{xs:List A}{H:List B'}{B:S->Option (S⊕X)}{mk:Nat->S}{p:A->B'->Bool}{found:Nat->A->B'->X}{e:X}(K:xs.length=H.length)
  (hs: ∀i x y,xs[i]?=some x->H[i]?=some y->B (mk i)=(if p x y=true then some (.inl (mk (i+1)))else some (.inr (found i x y))))
  (W:B (mk xs.length)=some (.inr e)) (n:Nat) (hn:xs.length<n):
  ((xs.zip H).all (λq=>p q.1 q.2)=true/\aM B n (mk 0)=some e)\/((xs.zip H).all (λq=>p q.1 q.2)=false/\∃i x y,aM B n (mk 0)=some (found i x y)):=by
 have Y:(xs.zip H).length=xs.length:=by simp[K]
 have h:=b8 (xs:=xs.zip H) (B:=B) (mk:=mk) (p:=λq=>!p q.1 q.2) (found:=λi q=>found i q.1 q.2) (e:=e) (λi q J=>?_) (by rw[Y];exact W) xs.length 0 n (by omega) hn
 ·rw[yd2]at h;have O:(xs.zip H).all (λq=>p q.1 q.2)=!(xs.zip H).any (λq=>!p q.1 q.2):=by rw[List.all_eq_not_any_not]
  rcases h with ⟨N,k,q,_,_,M⟩|⟨N,M⟩
  ·exact .inr ⟨by rw[O,N];rfl,k,q.1,q.2,M⟩
  ·exact .inl ⟨by rw[O,N];rfl,M⟩
 ·have V:i<(xs.zip H).length:=r9 J;rw[ye V]at J;have J:=yb J;rw[ye4]at J;have U:xs[i]?=some q.1:=by rw[<-J,ye]
  have Z:H[i]?=some q.2:=by rw[<-J,ye]
  rw[hs i q.1 q.2 U Z];cases p q.1 q.2<;>rfl
def R6{A:Type}(p:A->A->Bool)(xs ys:List A):Bool:=decide (xs.length=ys.length)&&(xs.zip ys).all (λq=>p q.1 q.2)
theorem Bq{A B:Type}(a:List A)(b:List B):(aC a !=aC b)=!decide (a.length=b.length):=by
 rw[aB,aB];by_cases h:a.length=b.length
 ·simp[h]
 ·rw[decide_eq_false h]
  show(!((a.length:Int)==(b.length:Int)))=!false
  rw[beq_eq_false_iff_ne.2 (by omega)]
theorem IY{A:Type}{p:A->A->Bool}(xs:List A)(h: ∀x∈xs,p x x=true):R6 p xs xs=true:=by
 unfold R6;rw[decide_eq_true rfl,yq1,ya1];intro q H;obtain⟨i,hi,rfl⟩:=yb2 H;rw[ye4];exact h _ (yf2 _)
theorem kD{A:Type}{p:A->A->Bool}{xs H:List A}(h:R6 p xs H=true):xs.length=H.length/\∀i (M:i<xs.length) (J:i<H.length),p xs[i] H[i]=true:=by
 unfold R6 at h;rw[yc,decide_eq_true_eq,ya1]at h;refine⟨h.1,λi M J=>?_⟩
 have:=h.2 (xs[i],H[i]) (by
  have K:i<(xs.zip H).length:=by simp;omega
  have:(xs.zip H)[i]=(xs[i],H[i]):=by rw[ye4]
  rw[<-this];exact yf2 K)
 exact this
theorem I9{A:Type}{p:A->A->Bool}{xs H:List A}(J:xs.length=H.length)(h: ∀i (h1:i<xs.length) (h2:i<H.length),p xs[i] H[i]=true):R6 p xs H=true:=by
 unfold R6;rw[yc,decide_eq_true_eq,ya1];refine⟨J,λq M=>?_⟩;obtain⟨i,K,rfl⟩:=yb2 M;rw[ye4];simp at K;exact h i (by omega) (by omega)
end Sx
end
section
namespace Sx
open Go Go.Ab
def qQ(t:Int×Int):Bool:=t.1==2||(t.1==3||(t.1==4||(t.1==6||t.1==7)))
def fS(a b:Int×Int):Bool:=(a.1==b.1&&a.2==b.2)||(b.1==8||(qQ a&&(qQ b&&(a.1==6||b.1==7))))
theorem qcz_eq(n:Nat)(t:Int×Int):qcz n t.1 t.2=some (qQ t):=by
 unfold qcz qQ;cases t.1==2<;>cases t.1==3<;>cases t.1==4<;>cases t.1==6<;>cases t.1==7<;>rfl
theorem AO(n:Nat)(t:Int×Int):qcs n t.1 t.2=some (qQ t):=by
 unfold qcs qQ;cases t.1==2<;>cases t.1==3<;>cases t.1==4<;>cases t.1==6<;>cases t.1==7<;>rfl
theorem qcy_eq(n:Nat)(a b:Int×Int):qcy n a.1 a.2 b.1 b.2=some (fS a b):=by
 unfold qcy fS;rw[qcz_eq n a,qcz_eq n b];simp only[ya];cases(a.1==b.1&&a.2==b.2)<;>cases b.1==8<;>cases qQ a<;>cases qQ b<;>cases a.1==6<;>rfl
theorem A4(n:Nat)(a b:Int×Int):qcl n a.1 a.2 b.1 b.2=some (fS a b):=by
 unfold qcl fS;rw[AO n a,AO n b];simp only[ya];cases(a.1==b.1&&a.2==b.2)<;>cases b.1==8<;>cases qQ a<;>cases qQ b<;>cases a.1==6<;>rfl
theorem nB(a:Int×Int):fS a a=true:=by simp[fS]
theorem eW(a b:Int×Int):fS a b=true↔a=b\/b.1=8\/(qQ a=true/\qQ b=true/\(a.1=6\/b.1=7)):=by
 unfold fS;simp only[yh2,yc,beq_iff_eq];have:(a.1=b.1/\a.2=b.2)↔a=b:=by
  constructor
  ·intro h;exact Prod.ext h.1 h.2
  ·rintro rfl;exact⟨rfl,rfl⟩
 rw[this]
theorem yT(t:Int×Int):qQ t=true↔t.1=2\/t.1=3\/t.1=4\/t.1=6\/t.1=7:=by simp[qQ]
theorem H2{a b c:Int×Int}(h:fS a b=true)(J:fS b c=true):fS a c=true:=by
 rw[eW]at h J⊢
 rcases J with rfl|J|⟨M,K,H⟩
 ·exact h
 ·exact .inr (.inl J)
 ·rcases h with rfl|h|⟨N,g2,g3⟩
  ·exact .inr (.inr ⟨M,K,H⟩)
  ·rw[yT]at M;omega
  ·refine .inr (.inr ⟨N,K,?_⟩);rcases H with H|H
   ·left;omega
   ·exact .inr H
def bO(a b:List (Int×Int)):Bool:=R6 fS a b
theorem oM(a:List (Int×Int)):bO a a=true:=IY a λx _=>nB x
theorem o6{a b c:List (Int×Int)}(h:bO a b=true)(K:bO b c=true):bO a c=true:=by
 obtain⟨l1,J⟩:=kD h;obtain⟨l2,M⟩:=kD K;exact I9 (by omega) λi N H=>H2 (J i N (by omega)) (M i (by omega) H)
theorem F0(n:Nat)(a b:List (Int×Int))(ha:a.length≤5000)(hn:6000≤n):qbb n a b=some (bO a b):=by
 unfold qbb bO R6;rw[Bq];by_cases K:a.length=b.length
 ·rw[decide_eq_true K,yf1,yg,yq1];have h:=loop_two (B:=λs=>qbb_B0 n s.1 s.2.1 s.2.2) (mk:=λ(i:Nat)=>(a,(b,(i:Int)))) (p:=fS) (found:=λi x y=>Sum.inl false) (e:=Sum.inr ()) K (λi x y M N=>?_) ?_ n (by omega)
  ·rcases h with ⟨J,H⟩|⟨J,i,x,y,H⟩
   ·rw[show qbb_W0 n (a,(b,0))=_ from H,J];rfl
   ·rw[show qbb_W0 n (a,(b,0))=_ from H,J];rfl
  ·have hi:=r9 M;show qbb_B0 n a b (i:Int)=_;unfold qbb_B0;rw[aB,decide_eq_true (by omega),yh,aE,M,ya,aE,N,ya,A4 n x y,ya,aT (by omega)];cases fS x y<;>rfl
  ·show qbb_B0 n a b (a.length:Int)=_;unfold qbb_B0;rw[aB,decide_eq_false (by omega),yg]
 ·rw[decide_eq_false K];rfl
def Fv(a l:List (Int×Int))(k:Int):Int×Int:=if 0≤k/\k<(a.length+l.length:Int)then(a++l).getD k.toNat (8,0)else(8,0)
theorem qbx_eq(n:Nat)(a:List (Int×Int))(N r1:Int)(l:List (Int×Int))(c:List (Int×Int×Int))(k:Int)(hl:a.length+l.length≤4294967296):qbx n a N r1 l c k=some (Fv a l k):=by
 unfold qbx Fv;rw[aB,aB,aW (by omega) (by omega)];by_cases K:k≥0
 ·rw[decide_eq_true K];simp only[yh];obtain⟨j,rfl⟩: ∃j:Nat,k=(j:Int):=⟨k.toNat,by omega⟩
  by_cases M:(j:Int)<(a.length:Int)
  ·have H:j<a.length:=by omega
   rw[decide_eq_true M,yh,aE,if_pos (by omega),yz,ye H,ya,ym,yq H,ye H];rfl
  ·rw[decide_eq_false M,yg];by_cases J:(j:Int)<(a.length:Int)+(l.length:Int)
   ·have H:j-a.length<l.length:=by omega
    rw[decide_eq_true J,yh,if_pos (by omega),cW (by omega) (by omega)];have:(j:Int)-(a.length:Int)=((j-a.length:Nat):Int):=by omega
    rw[this,aE,ye H,ya,yz,ym,yy (by omega),ye H];rfl
   ·rw[decide_eq_false J,yg,if_neg (by omega)]
 ·rw[decide_eq_false K];simp only[yg];rw[if_neg (by omega)]
theorem lV(n:Nat)(a:List (Int×Int))(M r1:Int)(l:List (Int×Int))(c:List (Int×Int×Int))(k:Int)(hl:a.length+l.length≤4294967296):qav n a M r1 l c k=some (Fv a l k):=by
 unfold qav Fv;rw[bB (by omega),yh,bB (by rw[yi];omega),yh,aB,yi];by_cases J:k<0
 ·rw[decide_eq_true J,yh,if_neg (by omega)]
 ·rw[decide_eq_false J,yg];obtain⟨j,rfl⟩: ∃j:Nat,k=(j:Int):=⟨k.toNat,by omega⟩
  by_cases K:(j:Int)≥((a.length+l.length:Nat):Int)
  ·rw[decide_eq_true K,yh,if_neg (by omega)]
  ·have H:j<(a++l).length:=by rw[yi];omega
   rw[decide_eq_false K,yg,decide_eq_true (by omega:(0:Int)≤(j:Int)),decide_eq_true (by omega:(j:Int)<((a.length+l.length:Nat):Int)),yj1,yh,if_pos (by omega),yz,ye H,
    ya,ym,ye H]
   rfl
end Sx
end
section
namespace Sx
open Go Go.Ab
def IM:Nat->Nat->List Int
 |0,v=> [(v:Int)]
 |k+1,v=>if v<128 then [(v:Int)]else((128+v%128:Nat):Int)::IM k (v/128)
def bX(v:Nat):List Int:=IM 10 v
theorem H4: ∀(k v:Nat),1≤(IM k v).length/\(IM k v).length≤k+1
 |0,v=>⟨yb1 _,yb1 _⟩
 |k+1,v=>by
  unfold IM;split
  ·exact⟨by simp,by simp⟩
  ·have:=H4 k (v/128);rw[yw];omega
theorem a7(v:Nat):1≤(bX v).length/\(bX v).length≤11:=H4 10 v
theorem WH(v:Nat):WN .u8 (bJ .u8 (v:Int)) 128=((128+v%128:Nat):Int):=by
 rw[GX];have h: ∀m:Nat,m<256->WN .u8 (m:Int) 128=((128+m%128:Nat):Int):=by decide+kernel
 have:=h (v%256) (by omega);rw[show((v:Int)%256)=((v%256:Nat):Int) by omega,this];omega
theorem W9(v:Nat):SK .u64 (v:Int) 7=((v/128:Nat):Int):=by
 show(v:Int).fdiv (2 ^ (min (7:Int).toNat 64))=_
 rw[show((2:Int) ^ (min (7:Int).toNat 64))=128 from rfl,Int.fdiv_eq_ediv_of_nonneg _ (by omega)];omega
theorem qdd_loop(n:Nat): ∀(k v m:Nat) (acc:List Int),v<128 ^ (k+1)->acc.length+k≤4294967000->k<m->∃r,aM (λs=>qdd_B0 n s.1 s.2) m ((v:Int),acc)=some r/\0≤r.1/\r.1≤127/\r.2++ [r.1]=acc++IM k v/\r.2.length≤acc.length+k
 |0,v,m+1,acc,H,V,hm=>by
  refine⟨((v:Int),acc),cA ?_,by omega,by simp only[];omega,rfl,by simp⟩;show qdd_B0 n (v:Int) acc=_;unfold qdd_B0;rw[decide_eq_false (by omega),yg]
 |k+1,v,m+1,acc,H,V,hm=>by
  by_cases h:v<128
  ·refine⟨((v:Int),acc),cA ?_,by omega,by simp only[];omega,by simp[IM,h],by simp⟩;show qdd_B0 n (v:Int) acc=_;unfold qdd_B0;rw[decide_eq_false (by omega),yg]
  ·have U:qdd_B0 n (v:Int) acc=some (Sum.inl (((v/128:Nat):Int),acc++ [((128+v%128:Nat):Int)])):=by
    unfold qdd_B0;rw[decide_eq_true (by omega),yh,WH,W9,bB (by simp;omega),yh]
   rw[cB (s:=((v:Int),acc)) U];obtain⟨r,O,M,J,N,K⟩:=qdd_loop n k (v/128) m (acc++ [((128+v%128:Nat):Int)]) (by rw[Nat.pow_succ]at H;omega) (by simp;omega) (by omega);refine⟨r,O,M,J,?_,by simp at K;omega⟩;rw[N,IM,if_neg h];simp
 |_,_,0,_,_,_,hm=>by omega
theorem qdd_eq(n v:Nat)(hv:v<18446744073709551616)(hn:20≤n):qdd n (v:Int)=some (bX v):=by
 unfold qdd;obtain⟨r,K,H,h3,J,h5⟩:=qdd_loop n 10 v n [] (by omega) (by simp) (by omega);rw[show qdd_W0 n ((v:Int),[])=some r from K,ya,wW H (by omega),J,bB (by have:=a7 v;simp[bX]at this;simp;omega),yh];rfl
theorem V9{v:Nat}(hv:v<18446744073709551616):Tz .u64 (v:Int) 128=((v/128:Nat):Int):=by
 show IntKind.u64.wrap ((v:Int).tdiv 128)=_;rw[Int.tdiv_eq_ediv_of_nonneg (by omega),Hr];omega
theorem MU(n:Nat): ∀(k v d:Nat),v<128 ^ (k+1)->v<18446744073709551616->k<d->k≤11->qct_D n d (v:Int)=some (IM k v)
 |0,v,d+1,K,H,J,M=>by
  show qct_S n (qct_D n d) (v:Int)=_;unfold qct_S;rw[decide_eq_true (by omega),yh,wW (by omega) (by omega)];rfl
 |k+1,v,d+1,K,H,J,M=>by
  show qct_S n (qct_D n d) (v:Int)=_;unfold qct_S;by_cases h:v<128
  ·rw[decide_eq_true (by omega),yh,wW (by omega) (by omega),IM,if_pos h]
  ·have hl:=H4 k (v/128);rw[decide_eq_false (by omega),yg,V9 H,MU n k (v/128) d (by rw[Nat.pow_succ]at K;omega) (by omega) (by omega) (by omega),ya,Ga (by omega)];have N:aK .u64 128 ((v:Int)%128)=((128+v%128:Nat):Int):=by
    show IntKind.u64.wrap _=_;rw[Hr];omega
   rw[N,wW (by omega) (by omega),bB (by simp;omega),yh,IM,if_neg h];rfl
 |_,_,0,_,_,J,_=>by omega
theorem fC(n v:Nat)(H:v<18446744073709551616)(hn:20≤n):qct n (v:Int)=some (bX v):=MU n 10 v n (by omega) H (by omega) (by omega)
def Bf(k v:Nat):List Int:=(List.range k).map λi=>((v/256 ^ i%256:Nat):Int)
theorem p8(k v:Nat):(Bf k v).length=k:=by simp[Bf]
def JY(k:Int):Nat:=k.toNat
def oE(t:Int×Int):List Int:=bX (JY t.1)++bX (JY t.2)
theorem iI(t:Int×Int):(oE t).length≤22:=by
 have:=a7 (JY t.1);have:=a7 (JY t.2);rw[oE,yi];omega
def UW(x:Int):Prop:= -9223372036854775808≤x/\x≤9223372036854775807
def WC(t:Int×Int):Prop:=UW t.1/\UW t.2
theorem UA{k:Int}(h:UW k):JY k<18446744073709551616:=by
 unfold JY;unfold UW at h;omega
theorem VZ{k:Int}(h:UW k):bJ .u64 (N3 k 0)=((JY k:Nat):Int):=by
 unfold N3 JY;unfold UW at h;by_cases h0:k<0
 ·rw[decide_eq_true (by omega),yh];have:k.toNat=0:=by omega
  rw[this];rfl
 ·rw[decide_eq_false (by omega),yg,eM (by omega) (by omega)];omega
theorem qcx_eq(n:Nat)(t:Int×Int)(ht:WC t)(hn:20≤n):qcx n t.1 t.2=some (oE t):=by
 unfold qcx;have hl:=iI t;rw[VZ ht.1,VZ ht.2,qdd_eq n _ (UA ht.1) hn,ya,qdd_eq n _ (UA ht.2) hn,ya]
 show(bif Nat.ble (oE t).length 4294967296 then some (oE t)else none)=_
 rw[bB (by omega),yh]
theorem B6(n:Nat)(t:Int×Int)(ht:WC t)(hn:20≤n):qcf n t.1 t.2=some (oE t):=by
 have hl:=iI t;have M: ∀{k:Int},UW k->k<0->qct n (bJ .u64 0)=some (bX (JY k)):=by
  intro k O h;rw[show bJ .u64 0=((0:Nat):Int)from rfl,fC n 0 (by omega) hn];have:JY k=0:=by unfold JY;omega
  rw[this]
 have N: ∀{k:Int},UW k->¬k<0->qct n (bJ .u64 k)=some (bX (JY k)):=by
  intro k O h;unfold UW at O;have:bJ .u64 k=((JY k:Nat):Int):=by
   rw[eM (by omega) (by omega)];unfold JY;omega
  rw[this,fC n _ (by unfold JY;omega) hn]
 have H:(bif Nat.ble (bX (JY t.1)++bX (JY t.2)).length 4294967296 then some (bX (JY t.1)++bX (JY t.2))else none)=some (oE t):=by
  show(bif Nat.ble (oE t).length 4294967296 then some (oE t)else none)=_
  rw[bB (by omega),yh]
 unfold qcf;by_cases K:t.1<0
 ·by_cases J:t.2<0
  ·rw[decide_eq_true K,yh,decide_eq_true J,yh,M ht.1 K,ya];have:=M ht.2 J;rw[M ht.1 K]at this;rw[ya,yb this,<-yb this];rw[yb this]at H⊢
   exact H
  ·rw[decide_eq_true K,yh,decide_eq_false J,yg,M ht.1 K,ya,N ht.2 J,ya];exact H
 ·by_cases J:t.2<0
  ·rw[decide_eq_false K,yg,decide_eq_true J,yh,N ht.1 K,ya,M ht.2 J,ya];exact H
  ·rw[decide_eq_false K,yg,decide_eq_false J,yg,N ht.1 K,ya,N ht.2 J,ya];exact H
def iJ(recs:Int)(t:Int×Int):Bool:=
 if t.1=1\/t.1=2\/t.1=3\/t.1=7 then t.2==0 else if t.1=4 then decide (0≤t.2/\t.2<recs)else if t.1=5 then decide (0≤t.2/\t.2<4)else false
theorem Hq(n:Nat)(t:Int×Int)(recs:Int):qcn n t.1 t.2 recs=some (iJ recs t):=by
 obtain⟨k,m⟩:=t;unfold qcn iJ;simp only[yj4,beq_iff_eq,decide_eq_true_eq];by_cases N:k=1
 ·simp[N]
 by_cases K:k=2
 ·simp[K]
 by_cases H:k=3
 ·simp[H]
 by_cases O:k=7
 ·simp[O]
 by_cases M:k=4
 ·by_cases hm:0≤m<;>simp[M,hm]
 by_cases J:k=5
 ·by_cases hm:0≤m<;>simp[J,hm]
 simp[N,K,H,M,J,O]
theorem Cb(n:Nat)(t:Int×Int)(recs:Int):qce n t.1 t.2 recs=some (iJ recs t):=Hq n t recs
end Sx
end
section
namespace Sx
open Go Go.Ab
def gI(op:Int):Int:=
 if op<0\/42≤op then-1 else if op=29\/op=30 then 2
 else if op=0\/op=1\/op=3\/op=4\/op=23\/op=24\/op=25\/op=27\/op=28 then 1 else 0
theorem Gr(op:Int):gI op= -1\/gI op=0\/gI op=1\/gI op=2:=by
 unfold gI;split
 ·exact .inl rfl
 ·split
  ·exact .inr (.inr (.inr rfl))
  ·split
   ·exact .inr (.inr (.inl rfl))
   ·exact .inr (.inl rfl)
theorem vD{op:Int}(h:0≤gI op):0≤op/\op<42:=by
 unfold gI at h;split at h<;>omega
theorem qcj_eq(n:Nat)(op:Int):qcj n op=some (gI op):=by
 by_cases h:0≤op/\op<42
 ·obtain⟨k,rfl⟩: ∃k:Nat,op=(k:Int):=⟨op.toNat,by omega⟩
  have J: ∀k:Nat,k<42->qcj 0 (k:Int)=some (gI (k:Int)):=by decide+kernel
  exact J k (by omega)
 ·have K:gI op= -1:=by
   unfold gI;rw[if_pos (by omega)]
  rw[K];unfold qcj;simp only[yj4,beq_iff_eq,decide_eq_true_eq];rw[if_neg (by omega),if_neg (by omega),if_neg (by omega),if_neg (by omega),if_neg (by omega),if_neg (by omega),if_neg (by omega),if_neg (by omega),if_neg (by omega),if_neg (by omega),if_neg (by omega)];by_cases H:op<0
  ·rw[if_pos H]
  ·rw[if_neg H,if_pos (by omega)]
theorem Pw(n:Nat)(op:Int)(hn:10≤n):qbz n op=some (gI op):=by
 by_cases h:0≤op/\op<42
 ·obtain⟨k,rfl⟩: ∃k:Nat,op=(k:Int):=⟨op.toNat,by omega⟩
  have U: ∀k:Nat,k<42->qbz 10 (k:Int)=some (gI (k:Int)):=by decide+kernel
  have H:=U k (by omega);unfold qbz at H⊢
  rw[decide_eq_false (by omega),yg,decide_eq_false (by omega),yg]at H⊢
  cases J:((k:Int)==29)with
  |true=>rw[J]at H;exact H
  |false=>
   rw[J,yg]at H;rw[yg];cases K:((k:Int)==30)with
   |true=>rw[K]at H;exact H
   |false=>
    rw[K,yg]at H;rw[yg];obtain⟨x,O,N⟩:=yp1.1 H;rw[show qbz_W0 n ((k:Int),[0,1,3,4,23,24,25,27,28],0)=some x from H5 (n:=10) O n hn];exact N
 ·have V:gI op= -1:=by
   unfold gI;rw[if_pos (by omega)]
  rw[V];unfold qbz;simp only[yj4,beq_iff_eq,decide_eq_true_eq];by_cases M:op<0
  ·rw[if_pos M]
  ·rw[if_neg M,if_pos (by omega)]
theorem qda_eq(n:Nat)(v:Int)(b:Bool):qda n v b=some (decide (0≤v/\v≤255/\(b=true\/v=0))):=by
 unfold qda;simp only[yj4,decide_eq_true_eq];by_cases H:v≥0
 ·by_cases J:v≤255
  ·cases b with
   |true=>rw[if_pos H,if_pos J,if_pos rfl,decide_eq_true (by simp;omega)]
   |false=>
    rw[if_pos H,if_pos J,if_neg (by simp)];by_cases K:v=0
    ·simp[K]
    ·rw[beq_false_of_ne K,decide_eq_false (by simp;omega)]
  ·rw[if_pos H,if_neg J,decide_eq_false (by omega)]
 ·rw[if_neg H,decide_eq_false (by omega)]
def kP(i:Int×Int×Int):Bool:=
 decide (gI i.1<0\/¬(0≤i.2.1/\i.2.1≤255/\(gI i.1>0\/i.2.1=0))\/¬(0≤i.2.2/\i.2.2≤255/\(gI i.1>1\/i.2.2=0)))
def oX(i:Int×Int×Int):List Int:=
 if kP i=true then []else i.1::((if gI i.1>0 then bX i.2.1.toNat else [])++(if gI i.1>1 then bX i.2.2.toNat else []))
theorem zD(i:Int×Int×Int):(oX i).length≤23:=by
 unfold oX;have:=a7 i.2.1.toNat
 have:=a7 i.2.2.toNat
 split
 ·simp
 ·rw[yw,yi];split<;>split<;>simp<;>omega
theorem MR(i:Int×Int×Int):((oX i).length==0)=kP i:=by
 unfold oX;cases kP i<;>simp
theorem Ho(n:Nat)(v:Int)(H:0≤v)(h2:v≤255)(hn:20≤n):qdd n (bJ .u64 v)=some (bX v.toNat)/\qct n (bJ .u64 v)=some (bX v.toNat):=by
 have:bJ .u64 v=((v.toNat:Nat):Int):=by rw[eM H (by omega)];omega
 rw[this];exact⟨qdd_eq n _ (by omega) hn,fC n _ (by omega) hn⟩
theorem qcw_eq(n:Nat)(i:Int×Int×Int)(hn:20≤n):qcw n i.1 i.2.1 i.2.2=some (oX i):=by
 obtain⟨op,a,b⟩:=i;unfold qcw oX kP;rw[qcj_eq,ya];simp only[];by_cases U:gI op<0
 ·rw[decide_eq_true U,yh,if_pos (by rw[decide_eq_true (.inl U)])]
 rw[decide_eq_false U,yg,qda_eq,ya];by_cases N:0≤a/\a≤255/\(gI op>0\/a=0)
 ·have K:0≤a/\a≤255/\(decide (gI op>0)=true\/a=0):=by simpa using N
  rw[decide_eq_true K,yf1,yg,qda_eq,ya];by_cases M:0≤b/\b≤255/\(gI op>1\/b=0)
  ·have J:0≤b/\b≤255/\(decide (gI op>1)=true\/b=0):=by simpa using M
   have V:=vD (op:=op) (by omega);rw[decide_eq_true J,yf1,yg,if_neg (by rw[decide_eq_false];simp;exact λh=>by rcases h with h|h|h;exact U h;exact h N;exact h M),wW V.1 (by omega)];have W:=(Ho n a N.1 N.2.1 hn).1;have Y:=(Ho n b M.1 M.2.1 hn).1;have la:=a7 a.toNat
   have lb:=a7 b.toNat
   rcases Gr op with O|O|O|O
   ·omega
   ·rw[O];obtain⟨m,rfl⟩: ∃m,n=m+1:=⟨n-1,by omega⟩
    rw[show(decide ((0:Int)≤0)&&decide ((0:Int)≤2))=true from rfl,yh];have h:qcw_W0 (m+1) (((0,(Int.toNat 0)-0),(((((Int.toNat 0)-0):Nat):Int),0)),([op],(a,b)))=some ([op],(a,b)):=by
     refine cA ?_;rfl
    rw[h];rfl
   ·rw[O];obtain⟨m,rfl⟩: ∃m,n=m+2:=⟨n-2,by omega⟩
    rw[show(decide ((0:Int)≤1)&&decide ((1:Int)≤2))=true from rfl,yh];have h:qcw_W0 (m+2) (((0,(Int.toNat 1)-0),(((((Int.toNat 1)-0):Nat):Int),0)),([op],(a,b)))=some ([op]++bX a.toNat,(a,b)):=by
     refine(cB (s':=(((0,1),((1:Int),(1:Int))),([op]++bX a.toNat,(a,b)))) ?_).trans (cA ?_)
     ·show((qdd (m+2) (bJ .u64 a)).bind λH=>bif Nat.ble ([op]++H).length 4294967296 then some (Sum.inl (((0,1),((1:Int),(aK .i64 0 1))),(([op]++H),(a,b))))else none)=_
      rw[W,ya,bB (by simp;omega)];rfl
     ·rfl
    rw[h];simp
   ·rw[O];obtain⟨m,rfl⟩: ∃m,n=m+3:=⟨n-3,by omega⟩
    rw[show(decide ((0:Int)≤2)&&decide ((2:Int)≤2))=true from rfl,yh];have h:qcw_W0 (m+3) (((0,(Int.toNat 2)-0),(((((Int.toNat 2)-0):Nat):Int),0)),([op],(a,b)))=some (([op]++bX a.toNat)++bX b.toNat,(a,b)):=by
     refine(cB (s':=(((0,2),((2:Int),(1:Int))),([op]++bX a.toNat,(a,b)))) ?_).trans ((cB (s':=(((0,2),((2:Int),(2:Int))),(([op]++bX a.toNat)++bX b.toNat,(a,b)))) ?_).trans (cA ?_))
     ·show((qdd (m+3) (bJ .u64 a)).bind λH=>bif Nat.ble ([op]++H).length 4294967296 then some (Sum.inl (((0,2),((2:Int),(aK .i64 0 1))),(([op]++H),(a,b))))else none)=_
      rw[W,ya,bB (by simp;omega)];rfl
     ·show((qdd (m+3) (bJ .u64 b)).bind λH=>bif Nat.ble (([op]++bX a.toNat)++H).length 4294967296 then some (Sum.inl (((0,2),((2:Int),(aK .i64 1 1))),((([op]++bX a.toNat)++H),(a,b))))else none)=_
      rw[Y,ya,bB (by simp;omega)];rfl
     ·rfl
    rw[h];simp
  ·have J: ¬(0≤b/\b≤255/\(decide (gI op>1)=true\/b=0)):=by simpa using M
   rw[decide_eq_false J,yo2,yh,if_pos (by rw[decide_eq_true (.inr (.inr M))])]
 ·have K: ¬(0≤a/\a≤255/\(decide (gI op>0)=true\/a=0)):=by simpa using N
  rw[decide_eq_false K,yo2,yh,if_pos (by rw[decide_eq_true (.inr (.inl N))])]
theorem Ng(n:Nat)(i:Int×Int×Int)(hn:20≤n):qbk n i.1 i.2.1 i.2.2=some (oX i):=by
 obtain⟨op,a,b⟩:=i;unfold qbk oX kP;rw[Pw n _ (by omega),ya];simp only[yj4,decide_eq_true_eq,bne_iff_ne];by_cases U:gI op<0
 ·rw[if_pos U,if_pos (.inl U)]
 rw[if_neg U];by_cases K:a<0
 ·rw[if_pos K,if_pos (by omega)]
 rw[if_neg K];by_cases J:a>255
 ·rw[if_pos J,if_pos (by omega)]
 rw[if_neg J];by_cases N:b<0
 ·rw[if_pos N,if_pos (by omega)]
 rw[if_neg N];by_cases M:b>255
 ·rw[if_pos M,if_pos (by omega)]
 rw[if_neg M];have V:=vD (op:=op) (by omega);have Y:=(Ho n a (by omega) (by omega) hn).2;have vb:=(Ho n b (by omega) (by omega) hn).2;have la:=a7 a.toNat
 have lb:=a7 b.toNat
 rw[wW V.1 (by omega),Y,vb];simp only[ya];have f1:Nat.ble ([op]++bX a.toNat).length 4294967296=true:=bB (by simp;omega);have Z:Nat.ble ([op]++bX b.toNat).length 4294967296=true:=bB (by simp;omega);have f3:Nat.ble (([op]++bX a.toNat)++bX b.toNat).length 4294967296=true:=bB (by simp;omega);rw[f1,Z,f3];rcases Gr op with H|H|H|H
 ·omega
 ·rw[H];by_cases W:a=0
  ·by_cases O:b=0
   ·simp[W,O]
   ·simp[W,O]
  ·simp[W]
 ·rw[H];by_cases O:b=0
  ·simp[O];omega
  ·simp[O]
 ·rw[H];simp;omega
end Sx
end
section
namespace Sx
open Go Go.Ab
abbrev cQ:=Int×Int
abbrev BL:=Int×Int×Int
abbrev gH:=List cQ×Int×Int×List cQ×List BL
abbrev S2:=List cQ×Int×Int
def cE(recs most:Int)(l:List cQ):Bool:=decide ((l.length:Int)≤most)&&l.all (iJ recs)
theorem T0(n:Nat)(l:List cQ)(recs:Int)(hl:l.length≤4294967000)(hn:l.length<n):qs n l recs=some (l.any (λt=>!iJ recs t),recs):=by
 unfold qs qah;have h:=b8 (B:=λs=>qah_B0 n s.1.1 s.1.2.1 s.1.2.2 s.2) (xs:=l) (mk:=λi=>((l,(aC l,(i:Int))),recs)) (p:=λt=>!iJ recs t) (found:=λi x=>Sum.inl ((i:Int),recs)) (e:=Sum.inr recs)
  (λi x K=>?_) ?_ l.length 0 n (by omega) hn
 ·rw[yd2]at h;rcases h with ⟨J,k,x,_,_,H⟩|⟨J,H⟩
  ·rw[show qah_W0 n ((l,(aC l,0)),recs)=some (Sum.inl ((k:Int),recs))from H,J];show some (decide ((k:Int)≥0),recs)=_;rw[decide_eq_true (by omega)]
  ·rw[show qah_W0 n ((l,(aC l,0)),recs)=some (Sum.inr recs)from H,J];rfl
 ·have hi:=aU K;show qah_B0 n l (aC l) (i:Int) recs=_;unfold qah_B0 qan;rw[aB,decide_eq_true (by omega),yh,aE,K,ya,Hq,ya,ya,aT (by omega)];cases iJ recs x<;>rfl
 ·show qah_B0 n l (aC l) (l.length:Int) recs=_;unfold qah_B0;rw[aB,decide_eq_false (by omega),yg]
theorem A9{α:Type}(p:α->Bool)(l:List α):(!l.any λt=>!p t)=l.all p:=by
 induction l with
 |nil=>rfl
 |cons x l H=>rw[List.any_cons,yn3,<-H];cases p x<;>simp
theorem Tx(n:Nat)(l:List cQ)(recs H:Int)(J:l.length≤4294967000)(hn:l.length<n):qax n l recs H=some (cE recs H l):=by
 unfold qax cE;rw[aB,T0 n l recs J hn,ya]
 show(bif decide ((l.length:Int)≤H)then some (!l.any λt=>!iJ recs t)else some false)=_
 rw[A9];cases decide ((l.length:Int)≤H)<;>rfl
theorem Bd(n:Nat)(l:List cQ)(recs H:Int)(hm:H≤64)(hn:100≤n):qax n l recs H=some (cE recs H l):=by
 by_cases h:(l.length:Int)≤H
 ·exact Tx n l recs H (by omega) (by omega)
 ·unfold qax cE;rw[aB,decide_eq_false h,yg];rfl
theorem Se(n:Nat)(l:List (List cQ))(recs:Int)(hl:l.length≤64)(hn:100≤n):qg n l recs=some (l.any (λt=>!cE recs 6 t),recs):=by
 unfold qg qw;have h:=b8 (B:=λs=>qw_B0 n s.1.1 s.1.2.1 s.1.2.2 s.2) (xs:=l) (mk:=λi=>((l,(aC l,(i:Int))),recs)) (p:=λt=>!cE recs 6 t) (found:=λi x=>Sum.inl ((i:Int),recs)) (e:=Sum.inr recs)
  (λi x K=>?_) ?_ l.length 0 n (by omega) (by omega)
 ·rw[yd2]at h;rcases h with ⟨J,k,x,_,_,H⟩|⟨J,H⟩
  ·rw[show qw_W0 n ((l,(aC l,0)),recs)=some (Sum.inl ((k:Int),recs))from H,J];show some (decide ((k:Int)≥0),recs)=_;rw[decide_eq_true (by omega)]
  ·rw[show qw_W0 n ((l,(aC l,0)),recs)=some (Sum.inr recs)from H,J];rfl
 ·have hi:=aU K;show qw_B0 n l (aC l) (i:Int) recs=_;unfold qw_B0 qao;rw[aB,decide_eq_true (by omega),yh,aE,K,ya,Bd n x recs 6 (by omega) hn,ya,ya,aT (by omega)];cases cE recs 6 x<;>rfl
 ·show qw_B0 n l (aC l) (l.length:Int) recs=_;unfold qw_B0;rw[aB,decide_eq_false (by omega),yg]
theorem SS(n:Nat)(l:List BL)(hl:l.length≤64)(hn:100≤n):ql n l=some (l.any kP):=by
 unfold ql qaa;have h:=b8 (B:=λs=>qaa_B0 n s.1 s.2.1 s.2.2) (xs:=l) (mk:=λi=>(l,(aC l,(i:Int)))) (p:=kP) (found:=λi x=>Sum.inl (i:Int)) (e:=Sum.inr ())
  (λi x K=>?_) ?_ l.length 0 n (by omega) (by omega)
 ·rw[yd2]at h;rcases h with ⟨J,k,x,_,_,H⟩|⟨J,H⟩
  ·rw[show qaa_W0 n (l,(aC l,0))=some (Sum.inl (k:Int))from H,J];show some (decide ((k:Int)≥0))=_;rw[decide_eq_true (by omega)]
  ·rw[show qaa_W0 n (l,(aC l,0))=some (Sum.inr ())from H,J];rfl
 ·have hi:=aU K;show qaa_B0 n l (aC l) (i:Int)=_;unfold qaa_B0 qz;rw[aB,decide_eq_true (by omega),yh,aE,K,ya,qcw_eq n x (by omega),ya,ya,aT (by omega),aB];have:(((oX x).length:Int)==0)=kP x:=by
   rw[<-MR];cases(oX x).length<;>rfl
  rw[this];cases kP x<;>rfl
 ·show qaa_B0 n l (aC l) (l.length:Int)=_;unfold qaa_B0;rw[aB,decide_eq_false (by omega),yg]
def qP(recs:Int)(f:gH):Bool:=
 cE recs 4 f.1&&(iJ recs (f.2.1,f.2.2.1)&&(cE recs (8-(f.1.length:Int)) f.2.2.2.1&&(decide (1≤f.2.2.2.2.length)&&(decide (f.2.2.2.2.length≤64)&&!f.2.2.2.2.any kP))))
theorem UT(n:Nat)(f:gH)(recs:Int)(hn:100≤n):qae n f.1 f.2.1 f.2.2.1 f.2.2.2.1 f.2.2.2.2 recs=some (qP recs f):=by
 obtain⟨a,k,m,l,c⟩:=f;unfold qae qP;rw[Bd n a recs 4 (by omega) hn,ya];simp only[];cases K:cE recs 4 a with
 |false=>rfl
 |true=>
  have ha:(a.length:Int)≤4:=by
   simp only[cE,yc,decide_eq_true_eq]at K;exact K.1
  rw[yh,Hq n (k,m) recs,ya];cases iJ recs (k,m)with
  |false=>rfl
  |true=>
   rw[yh,aB,cW (by omega) (by omega),Bd n l recs _ (by omega) hn,ya];cases cE recs (8-(a.length:Int)) l with
   |false=>rfl
   |true=>
    rw[yh,aB];by_cases J:1≤c.length
    ·rw[decide_eq_true (by omega),yh,decide_eq_true J];by_cases H:c.length≤64
     ·rw[decide_eq_true (by omega),yh,decide_eq_true H,SS n c H hn,ya];simp
     ·rw[decide_eq_false (by omega),yg,decide_eq_false H];rfl
    ·rw[decide_eq_false (by omega),yg,decide_eq_false J];rfl
theorem Tj(n:Nat)(l:List gH)(recs:Int)(hl:l.length≤64)(hn:100≤n):qp n l recs=some (l.any (λt=>!qP recs t),recs):=by
 unfold qp qab;have h:=b8 (B:=λs=>qab_B0 n s.1.1 s.1.2.1 s.1.2.2 s.2) (xs:=l) (mk:=λi=>((l,(aC l,(i:Int))),recs)) (p:=λt=>!qP recs t) (found:=λi x=>Sum.inl ((i:Int),recs)) (e:=Sum.inr recs)
  (λi x K=>?_) ?_ l.length 0 n (by omega) (by omega)
 ·rw[yd2]at h;rcases h with ⟨J,k,x,_,_,H⟩|⟨J,H⟩
  ·rw[show qab_W0 n ((l,(aC l,0)),recs)=some (Sum.inl ((k:Int),recs))from H,J];show some (decide ((k:Int)≥0),recs)=_;rw[decide_eq_true (by omega)]
  ·rw[show qab_W0 n ((l,(aC l,0)),recs)=some (Sum.inr recs)from H,J];rfl
 ·have hi:=aU K;show qab_B0 n l (aC l) (i:Int) recs=_;unfold qab_B0 qap;rw[aB,decide_eq_true (by omega),yh,aE,K,ya,UT n x recs hn,ya,ya,aT (by omega)];cases qP recs x<;>rfl
 ·show qab_B0 n l (aC l) (l.length:Int) recs=_;unfold qab_B0;rw[aB,decide_eq_false (by omega),yg]
def yP(recs:Int)(i:S2):Bool:=cE recs 4 i.1&&iJ recs (i.2.1,i.2.2)
theorem PB(n:Nat)(l:List S2)(recs:Int)(hl:l.length≤64)(hn:100≤n):qi n l recs=some (l.any (λt=>!yP recs t),recs):=by
 unfold qi qy;have h:=b8 (B:=λs=>qy_B0 n s.1.1 s.1.2.1 s.1.2.2 s.2) (xs:=l) (mk:=λi=>((l,(aC l,(i:Int))),recs)) (p:=λt=>!yP recs t) (found:=λi x=>Sum.inl ((i:Int),recs)) (e:=Sum.inr recs)
  (λi x K=>?_) ?_ l.length 0 n (by omega) (by omega)
 ·rw[yd2]at h;rcases h with ⟨J,k,x,_,_,H⟩|⟨J,H⟩
  ·rw[show qy_W0 n ((l,(aC l,0)),recs)=some (Sum.inl ((k:Int),recs))from H,J];show some (decide ((k:Int)≥0),recs)=_;rw[decide_eq_true (by omega)]
  ·rw[show qy_W0 n ((l,(aC l,0)),recs)=some (Sum.inr recs)from H,J];rfl
 ·have hi:=aU K;show qy_B0 n l (aC l) (i:Int) recs=_;unfold qy_B0 qar;rw[aB,decide_eq_true (by omega),yh,aE,K,ya,Bd n x.1 recs 4 (by omega) hn,ya,aT (by omega)];unfold yP;cases cE recs 4 x.1 with
  |false=>rfl
  |true=>
   rw[yf1,yg,Hq n (x.2.1,x.2.2) recs,ya,ya];cases iJ recs (x.2.1,x.2.2)<;>rfl
 ·show qy_B0 n l (aC l) (l.length:Int) recs=_;unfold qy_B0;rw[aB,decide_eq_false (by omega),yg]
theorem Qn(n:Nat)(l:List ByteArray)(hl:l.length≤64)(hn:100≤n):qj n l=some (l.any (λs=>decide (s.size>32))):=by
 unfold qj qu;have h:=b8 (B:=λs=>qu_B0 n s.1 s.2.1 s.2.2) (xs:=l) (mk:=λi=>(l,(aC l,(i:Int)))) (p:=λs=>decide (s.size>32)) (found:=λi x=>Sum.inl (i:Int)) (e:=Sum.inr ())
  (λi x K=>?_) ?_ l.length 0 n (by omega) (by omega)
 ·rw[yd2]at h;rcases h with ⟨J,k,x,_,_,H⟩|⟨J,H⟩
  ·rw[show qu_W0 n (l,(aC l,0))=some (Sum.inl (k:Int))from H,J];show some (decide ((k:Int)≥0))=_;rw[decide_eq_true (by omega)]
  ·rw[show qu_W0 n (l,(aC l,0))=some (Sum.inr ())from H,J];rfl
 ·have hi:=aU K;show qu_B0 n l (aC l) (i:Int)=_;unfold qu_B0 qas;rw[aB,decide_eq_true (by omega),yh,aE,K,ya,ya,aT (by omega)];have:decide (CL x>32)=decide (x.size>32):=by
   unfold CL;by_cases h:x.size>32
   ·rw[decide_eq_true h,decide_eq_true (by omega)]
   ·rw[decide_eq_false h,decide_eq_false (by omega)]
  rw[this];cases decide (x.size>32)<;>rfl
 ·show qu_B0 n l (aC l) (l.length:Int)=_;unfold qu_B0;rw[aB,decide_eq_false (by omega),yg]
structure aX where
 recs:List (List cQ)
 funcs:List gH
 imps:List S2
 ints:List Int
 texts:List ByteArray
def c8(m:aX):Bool:=
 decide (m.recs.length≤8)&&(m.recs.all (cE m.recs.length 6)&&(decide (1≤m.funcs.length)&&(decide (m.funcs.length≤8)&&(m.funcs.all (qP m.recs.length)&&
  (decide (m.imps.length ≤ 8) && (m.imps.all (yP m.recs.length) && (decide (m.ints.length ≤ 16) && (decide (m.texts.length ≤ 16) && m.texts.all fun s => decide (s.size ≤ 32)))))))))
theorem We(l:List ByteArray):(!l.any λs=>decide (s.size>32))=l.all λs=>decide (s.size≤32):=by
 rw[<-A9];congr 2;funext s;by_cases h:s.size>32
 ·rw[decide_eq_true h,decide_eq_false (by omega)];rfl
 ·rw[decide_eq_false h,decide_eq_true (by omega)];rfl
theorem Vf(n:Nat)(m:aX)(hn:100≤n):qbg n m.recs m.funcs m.imps m.ints m.texts=some (c8 m):=by
 unfold qbg c8;rw[aB m.recs,aB m.funcs,aB m.imps,aB m.ints,aB m.texts];by_cases N:m.recs.length≤8
 ·rw[decide_eq_true (by omega:(m.recs.length:Int)≤8),yh,decide_eq_true N,Se n m.recs _ (by omega) hn,ya,A9,yq1];cases m.recs.all (cE m.recs.length 6)with
  |false=>rfl
  |true=>
   rw[yh,yq1];by_cases K:1≤m.funcs.length
   ·rw[decide_eq_true (by omega:(m.funcs.length:Int)≥1),yh,decide_eq_true K,yq1];by_cases H:m.funcs.length≤8
    ·rw[decide_eq_true (by omega:(m.funcs.length:Int)≤8),yh,decide_eq_true H,Tj n m.funcs _ (by omega) hn,ya,A9,yq1];cases m.funcs.all (qP m.recs.length)with
     |false=>rfl
     |true=>
      rw[yh,yq1];by_cases M:m.imps.length≤8
      ·rw[decide_eq_true (by omega:(m.imps.length:Int)≤8),yh,decide_eq_true M,PB n m.imps _ (by omega) hn,ya,A9,yq1];cases m.imps.all (yP m.recs.length)with
       |false=>rfl
       |true=>
        rw[yh,yq1];by_cases J:m.ints.length≤16
        ·rw[decide_eq_true (by omega:(m.ints.length:Int)≤16),yh,decide_eq_true J,yq1];by_cases O:m.texts.length≤16
         ·rw[decide_eq_true (by omega:(m.texts.length:Int)≤16),yh,decide_eq_true O,yq1,Qn n m.texts (by omega) hn,ya,We]
         ·rw[decide_eq_false (by omega: ¬(m.texts.length:Int)≤16),yg,decide_eq_false O];rfl
        ·rw[decide_eq_false (by omega: ¬(m.ints.length:Int)≤16),yg,decide_eq_false J];rfl
      ·rw[decide_eq_false (by omega: ¬(m.imps.length:Int)≤8),yg,decide_eq_false M];rfl
    ·rw[decide_eq_false (by omega: ¬(m.funcs.length:Int)≤8),yg,decide_eq_false H];rfl
   ·rw[decide_eq_false (by omega: ¬(m.funcs.length:Int)≥1),yg,decide_eq_false K];rfl
 ·rw[decide_eq_false (by omega: ¬(m.recs.length:Int)≤8),yg,decide_eq_false N];rfl
end Sx
end
section
namespace Sx
open Go Go.Ab
def PQ(l:List cQ):Prop:= ∀t∈l,WC t
structure Hi (m:aX):Prop where
 recs: ∀l∈m.recs,PQ l
 funcs: ∀f∈m.funcs,PQ f.1/\WC (f.2.1,f.2.2.1)/\PQ f.2.2.2.1
 imps: ∀i∈m.imps,PQ i.1/\WC (i.2.1,i.2.2)
 ints: ∀v∈m.ints,0≤v/\v≤18446744073709551615
def dP(l:List cQ):List Int:=bX l.length++l.flatMap oE
theorem gZ(l:List cQ):(dP l).length≤11+22*l.length:=by
 have:=a7 l.length;have:=cY oE 22 l λt _=>iI t;rw[dP,yi];omega
def vI(f:gH):List Int:=dP f.1++oE (f.2.1,f.2.2.1)++dP f.2.2.2.1++bX f.2.2.2.2.length++f.2.2.2.2.flatMap oX
def Ep(i:S2):List Int:=dP i.1++oE (i.2.1,i.2.2)
def Be(s:ByteArray):List Int:=bX s.size++c7 s
def dJ{α:Type}(f:α->List Int)(l:List α):List Int:=bX l.length++l.flatMap f
def Uu(l:List (List Int)):List Int:=dJ (λp=>bX p.length++p) l
def Cc(m:aX):List Int:=Uu [dJ dP m.recs,dJ vI m.funcs,dJ Ep m.imps,dJ (λv=>Bf 8 v.toNat) m.ints,dJ Be m.texts]
theorem y9(n k:Nat)(hk:k≤4294967000)(hn:20≤n):qn n (k:Int)=some (bX k):=by
 unfold qn;have:=a7 k;rw[eM (by omega) (by omega),qdd_eq n k (by omega) hn,ya,bB (by omega),yh]
theorem Fm(n k:Nat)(H:List Int)(hk:k≤4294967000)(hm:H.length≤4294900000)(hn:20≤n):qd n (k:Int) H=some (H++bX k):=by
 unfold qd;have:=a7 k;rw[eM (by omega) (by omega),qdd_eq n k (by omega) hn,ya,bB (by rw[yi];omega),yh]
theorem AL(n:Nat)(l:List cQ)(H:List Int)(M:PQ l)(hl:l.length≤100)(hm:H.length≤4294000000)(hn:200≤n):qk n l H=some (H++dP l):=by
 unfold qk;have hv:=a7 l.length;rw[aB,Fm n _ H (by omega) (by omega) (by omega),ya];have h:=fF (B:=λs=>qk_B0 n s.1.1 s.1.2.1 s.1.2.2 s.2) (xs:=l) (mk:=λi a=>((l,((l.length:Int),(i:Int))),a)) (f:=oE) (e:=id) (c:=22) (m0:=H++bX l.length) (cap:=4294967296)
  (λx _=>iI x) (by rw[yi];omega) (λi a x K J ha=>?_) (λa=>?_) (n:=n) (by omega)
 ·rw[show qk_W0 n ((l,((l.length:Int),0)),H++bX l.length)=_ from h,ya,id,yw1];rfl
 ·have hi:=aU K;show qk_B0 n l (l.length:Int) (i:Int) a=_;unfold qk_B0;rw[decide_eq_true (by omega),yh,aE,K,ya,qcx_eq n x (M x J) (by omega),ya,bB (by rw[yi];omega),yh,aT (by omega)]
 ·show qk_B0 n l (l.length:Int) (l.length:Int) a=_;unfold qk_B0;rw[decide_eq_false (by omega),yg];rfl
theorem lD{recs H:Int}{l:List cQ}(h:cE recs H l=true):(l.length:Int)≤H:=by
 simp only[cE,yc,decide_eq_true_eq]at h;exact h.1
theorem PK(n:Nat)(m:aX)(M:Hi m)(hf:c8 m=true)(hn:200≤n):qag n m.recs m.funcs m.imps m.ints m.texts=some (dJ dP m.recs)/\(dJ dP m.recs).length≤2000:=by
 simp only[c8,yc,decide_eq_true_eq,ya1]at hf;obtain⟨h1,K,_⟩:=hf;have hc: ∀x∈m.recs,(dP x).length≤143:=λx J=>by
  have:=gZ x;have:=lD (K x J);omega
 have hv:=a7 m.recs.length;refine⟨?_,by have:=cY dP 143 m.recs hc;rw[dJ,yi];omega⟩;unfold qag;rw[aB,y9 n _ (by omega) (by omega),ya];have h:=fF (B:=λs=>qag_B0 n s.1.1 s.1.2.1 s.1.2.2 s.2) (xs:=m.recs) (mk:=λi a=>((m.recs,((m.recs.length:Int),(i:Int))),a)) (f:=dP) (e:=id) (c:=143) (m0:=bX m.recs.length) (cap:=4000)
  hc (by omega) (λi a x J H ha=>?_) (λa=>?_) (n:=n) (by omega)
 ·rw[show qag_W0 n ((m.recs,((m.recs.length:Int),0)),bX m.recs.length)=_ from h,ya];rfl
 ·have hi:=aU J;show qag_B0 n m.recs (m.recs.length:Int) (i:Int) a=_;unfold qag_B0;have:=lD (K x H);rw[decide_eq_true (by omega),yh,aE,J,ya,AL n x a (M.recs x H) (by omega) (by omega) hn,ya,aT (by omega)]
 ·show qag_B0 n m.recs (m.recs.length:Int) (m.recs.length:Int) a=_;unfold qag_B0;rw[decide_eq_false (by omega),yg];rfl
theorem zM{recs:Int}{f:gH}(h:qP recs f=true):f.1.length≤4/\f.2.2.2.1.length≤8/\1≤f.2.2.2.2.length/\f.2.2.2.2.length≤64/\(vI f).length≤1900:=by
 simp only[qP,yc,decide_eq_true_eq]at h;obtain⟨J,_,H,K,M,_⟩:=h;have J:=lD J;have H:=lD H;have:=gZ f.1;have:=gZ f.2.2.2.1;have:=iI (f.2.1,f.2.2.1);have:=a7 f.2.2.2.2.length;have:=cY oX 23 f.2.2.2.2 λi _=>zD i;refine⟨by omega,by omega,K,M,?_⟩;simp only[vI,yi];omega
theorem Lq(n:Nat)(m:aX)(ho:Hi m)(hf:c8 m=true)(hn:200≤n):qv n m.recs m.funcs m.imps m.ints m.texts=some (dJ vI m.funcs)/\(dJ vI m.funcs).length≤20000:=by
 simp only[c8,yc,decide_eq_true_eq,ya1]at hf;obtain⟨_,_,h0,h1,W,_⟩:=hf;have hc: ∀x∈m.funcs,(vI x).length≤1900:=λx N=>(zM (W x N)).2.2.2.2;have hv:=a7 m.funcs.length;refine⟨?_,by have:=cY vI 1900 m.funcs hc;rw[dJ,yi];omega⟩;unfold qv;rw[aB,y9 n _ (by omega) (by omega),ya];have h:=fF (B:=λs=>qv_B0 n s.1.1 s.1.2.1 s.1.2.2 s.2) (xs:=m.funcs) (mk:=λi a=>((m.funcs,((m.funcs.length:Int),(i:Int))),a)) (f:=vI) (e:=id) (c:=1900) (m0:=bX m.funcs.length) (cap:=40000)
  hc (by omega) (λi a x N J ha=>?_) (λa=>?_) (n:=n) (by omega)
 ·rw[show qv_W0 n ((m.funcs,((m.funcs.length:Int),0)),bX m.funcs.length)=_ from h,ya];rfl
 ·have hi:=aU N;obtain⟨l1,l2,l3,l4,_⟩:=zM (W x J);obtain⟨o1,Y,V⟩:=ho.funcs x J;obtain⟨O,k,M,K,H⟩:=x;have t1:=gZ O;have t2:=gZ K;have t3:=iI (k,M);have t4:=a7 H.length;have t5:=cY oX 23 H λi _=>zD i;simp only at l1 l2 l3 l4 o1 Y V;show qv_B0 n m.funcs (m.funcs.length:Int) (i:Int) a=_;unfold qv_B0;rw[decide_eq_true (by omega),yh,aE,N,ya];simp only[]
  rw[AL n O a o1 (by omega) (by omega) hn,ya,qcx_eq n (k,M) Y (by omega),ya,bB (by simp only[yi];omega),yh,AL n K _ V (by omega) (by simp only[yi];omega) hn,ya,
   aB,Fm n _ _ (by omega) (by simp only[yi];omega) (by omega),ya]
  have U:=fF (B:=λs=>qv_B2 n s.1.1 s.1.2.1 s.1.2.2.1 s.1.2.2.2.1 s.1.2.2.2.2.1 s.1.2.2.2.2.2 s.2) (xs:=H) (mk:=λj b=>((m.funcs,((m.funcs.length:Int),((i:Int),(H,((H.length:Int),(j:Int)))))),b)) (f:=oX)
   (e:=λb=>((m.funcs,((m.funcs.length:Int),(i:Int))),b)) (c:=23) (m0:=a++dP O++oE (k,M)++dP K++bX H.length) (cap:=4294967296) (λy _=>zD y) (by simp only[yi];omega) (λj b y Z hmy hb=>?_) (λb=>?_) (n:=n) (by omega)
  ·rw[show qv_W2 n ((m.funcs,((m.funcs.length:Int),((i:Int),(H,((H.length:Int),0))))),a++dP O++oE (k,M)++dP K++bX H.length)=_ from U,ya];simp only[];rw[aT (by omega)];simp only[vI,yw1]
  ·have hj:=aU Z;show qv_B2 n m.funcs (m.funcs.length:Int) (i:Int) H (H.length:Int) (j:Int) b=_;unfold qv_B2;rw[decide_eq_true (by omega),yh,aE,Z,ya,qcw_eq n y (by omega),ya,bB (by rw[yi];omega),yh,aT (by omega)]
  ·show qv_B2 n m.funcs (m.funcs.length:Int) (i:Int) H (H.length:Int) (H.length:Int) b=_;unfold qv_B2;rw[decide_eq_false (by omega),yg]
 ·show qv_B0 n m.funcs (m.funcs.length:Int) (m.funcs.length:Int) a=_;unfold qv_B0;rw[decide_eq_false (by omega),yg];rfl
theorem JJ{recs:Int}{f:S2}(h:yP recs f=true):f.1.length≤4/\(Ep f).length≤130:=by
 simp only[yP,yc]at h;have h1:=lD h.1;have:=gZ f.1;have:=iI (f.2.1,f.2.2);refine⟨by omega,?_⟩;rw[Ep,yi];omega
theorem Pe(n:Nat)(m:aX)(W:Hi m)(hf:c8 m=true)(hn:200≤n):qad n m.recs m.funcs m.imps m.ints m.texts=some (dJ Ep m.imps)/\(dJ Ep m.imps).length≤2000:=by
 simp only[c8,yc,decide_eq_true_eq,ya1]at hf;obtain⟨_,_,_,_,_,h1,M,_⟩:=hf;have hc: ∀x∈m.imps,(Ep x).length≤130:=λx J=>(JJ (M x J)).2;have hv:=a7 m.imps.length;refine⟨?_,by have:=cY Ep 130 m.imps hc;rw[dJ,yi];omega⟩;unfold qad;rw[aB,y9 n _ (by omega) (by omega),ya];have h:=fF (B:=λs=>qad_B0 n s.1.1 s.1.2.1 s.1.2.2 s.2) (xs:=m.imps) (mk:=λi a=>((m.imps,((m.imps.length:Int),(i:Int))),a)) (f:=Ep) (e:=id) (c:=130) (m0:=bX m.imps.length) (cap:=40000)
  hc (by omega) (λi a x J H ha=>?_) (λa=>?_) (n:=n) (by omega)
 ·rw[show qad_W0 n ((m.imps,((m.imps.length:Int),0)),bX m.imps.length)=_ from h,ya];rfl
 ·have hi:=aU J;obtain⟨V,_⟩:=JJ (M x H);obtain⟨U,N⟩:=W.imps x H;obtain⟨O,k,K⟩:=x;have t1:=gZ O;have t3:=iI (k,K);simp only at V U N;show qad_B0 n m.imps (m.imps.length:Int) (i:Int) a=_;unfold qad_B0;rw[decide_eq_true (by omega),yh,aE,J,ya];simp only[];rw[AL n O a U (by omega) (by omega) hn,ya,qcx_eq n (k,K) N (by omega),ya,bB (by simp only[yi];omega),yh,aT (by omega)];simp only[Ep,yw1]
 ·show qad_B0 n m.imps (m.imps.length:Int) (m.imps.length:Int) a=_;unfold qad_B0;rw[decide_eq_false (by omega),yg];rfl
theorem VA(n:Nat)(v:Nat)(hv:v<18446744073709551616)(hn:20≤n):qcr n (v:Int) 8=some (Bf 8 v):=by
 have h:=fF (B:=λs=>qcr_B0 n s.1.1 s.1.2.1 s.1.2.2 s.2) (xs:=List.range 8) (mk:=λi a=>(((v:Int),((8:Int),(i:Int))),a)) (f:=λj=> [((v/256 ^ j%256:Nat):Int)]) (e:=id) (c:=1) (m0:= []) (cap:=100)
  (λx _=>by simp) (by simp) (λi a x H K N=>?_) (λa=>?_) (n:=n) (by simp;omega)
 ·unfold qcr;rw[show qcr_W0 n (((v:Int),((U4 (N3 8 0) 8),0)),[])=_ from h,ya];have e: ∀l:List Nat,l.flatMap (λj=> [((v/256 ^ j%256:Nat):Int)])=l.map λj=>((v/256 ^ j%256:Nat):Int):=by
   intro l
   induction l with
   |nil=>rfl
   |cons x l O=>rw[List.flatMap_cons,O];rfl
  rw[e];rfl
 ·have J:=aU H;rw[yy2]at J;rw[List.getElem?_range J]at H;obtain rfl:=yb H;show qcr_B0 n (v:Int) 8 (i:Int) a=_;unfold qcr_B0;have M:bJ .u8 (SK .u64 (v:Int) (SJ .i64 8 (i:Int)))=((v/256 ^ i%256:Nat):Int):=by
   rw[Nj (by omega) (by omega),GX]
   show((v:Int).fdiv (2 ^ (min (8*(i:Int)).toNat 64)))%256=_
   rw[show min (8*(i:Int)).toNat 64=8*i by omega,show((2:Int) ^ (8*i))=((256 ^ i:Nat):Int) by rw[show(256:Nat)=2 ^ 8 from rfl,<-Nat.pow_mul];simp,
    Int.fdiv_eq_ediv_of_nonneg _ (Int.natCast_nonneg _),<-Int.natCast_ediv]
   omega
  rw[decide_eq_true (by omega),yh,M,Nj (by omega) (by omega),decide_eq_true (by omega),yh,bB (by simp at N⊢;omega),yh,aT (by omega)]
 ·show qcr_B0 n (v:Int) 8 8 a=_;rfl
theorem PL(n:Nat)(m:aX)(M:Hi m)(hf:c8 m=true)(hn:200≤n):qac n m.recs m.funcs m.imps m.ints m.texts=some (dJ (λv=>Bf 8 v.toNat) m.ints)/\(dJ (λv:Int=>Bf 8 v.toNat) m.ints).length≤2000:=by
 simp only[c8,yc,decide_eq_true_eq,ya1]at hf;obtain⟨_,_,_,_,_,_,_,h1,_⟩:=hf;have hc: ∀x∈m.ints,(Bf 8 x.toNat).length≤8:=λx J=>by rw[p8];omega
 have hv:=a7 m.ints.length;refine⟨?_,by have:=cY (λv:Int=>Bf 8 v.toNat) 8 m.ints hc;rw[dJ,yi];omega⟩;unfold qac;rw[aB,y9 n _ (by omega) (by omega),ya];have h:=fF (B:=λs=>qac_B0 n s.1.1 s.1.2.1 s.1.2.2 s.2) (xs:=m.ints) (mk:=λi a=>((m.ints,((m.ints.length:Int),(i:Int))),a)) (f:=λv=>Bf 8 v.toNat) (e:=id) (c:=8) (m0:=bX m.ints.length) (cap:=40000)
  hc (by omega) (λi a x J H N=>?_) (λa=>?_) (n:=n) (by omega)
 ·rw[show qac_W0 n ((m.ints,((m.ints.length:Int),0)),bX m.ints.length)=_ from h,ya];rfl
 ·have hi:=aU J;have K:=M.ints x H;obtain⟨u,rfl⟩: ∃u:Nat,x=(u:Int):=⟨x.toNat,by omega⟩
  show qac_B0 n m.ints (m.ints.length:Int) (i:Int) a=_;unfold qac_B0;rw[p8]at N;rw[decide_eq_true (by omega),yh,aE,J,ya,VA n u (by omega) (by omega),ya,bB (by rw[yi,p8];omega),yh,aT (by omega),yz]
 ·show qac_B0 n m.ints (m.ints.length:Int) (m.ints.length:Int) a=_;unfold qac_B0;rw[decide_eq_false (by omega),yg];rfl
theorem nW(s:ByteArray):(c7 s).length=s.size:=by
 unfold c7;rw[ym1,yi2];rfl
theorem Ug(n:Nat)(m:aX)(hf:c8 m=true)(hn:200≤n):qam n m.recs m.funcs m.imps m.ints m.texts=some (dJ Be m.texts)/\(dJ Be m.texts).length≤2000:=by
 simp only[c8,yc,decide_eq_true_eq,ya1]at hf;obtain⟨_,_,_,_,_,_,_,_,h1,K⟩:=hf;have hc: ∀x∈m.texts,(Be x).length≤43:=λx J=>by
  have:=a7 x.size;have:=K x J;rw[Be,yi,nW];omega
 have hv:=a7 m.texts.length;refine⟨?_,by have:=cY Be 43 m.texts hc;rw[dJ,yi];omega⟩;unfold qam;rw[aB,y9 n _ (by omega) (by omega),ya];have h:=fF (B:=λs=>qam_B0 n s.1.1 s.1.2.1 s.1.2.2 s.2) (xs:=m.texts) (mk:=λi a=>((m.texts,((m.texts.length:Int),(i:Int))),a)) (f:=Be) (e:=id) (c:=43) (m0:=bX m.texts.length) (cap:=40000)
  hc (by omega) (λi a x J H ha=>?_) (λa=>?_) (n:=n) (by omega)
 ·rw[show qam_W0 n ((m.texts,((m.texts.length:Int),0)),bX m.texts.length)=_ from h,ya];rfl
 ·have hi:=aU J;have hs:=K x H;have M:=a7 x.size;show qam_B0 n m.texts (m.texts.length:Int) (i:Int) a=_;unfold qam_B0;rw[decide_eq_true (by omega),yh,aE,J,ya,show CL x=((x.size:Nat):Int)from rfl,Fm n _ a (by omega) (by omega) (by omega),ya,bB (by simp only[yi,nW];omega),yh,aT (by omega),yw1];rfl
 ·show qam_B0 n m.texts (m.texts.length:Int) (m.texts.length:Int) a=_;unfold qam_B0;rw[decide_eq_false (by omega),yg];rfl
theorem UF(n:Nat)(l:List (List Int))(hl:l.length≤100)(hc: ∀x∈l,x.length≤1000000)(hn:200≤n):qco n l=some (Uu l):=by
 have hv:=a7 l.length;have K: ∀x∈l,(bX x.length++x).length≤1000011:=λx J=>by
  have:=a7 x.length;have:=hc x J;rw[yi];omega
 unfold qco;rw[aB,eM (by omega) (by omega),qdd_eq n l.length (by omega) (by omega),ya];have h:=fF (B:=λs=>qco_B0 n s.1.1 s.1.2.1 s.1.2.2 s.2) (xs:=l) (mk:=λi a=>((l,((l.length:Int),(i:Int))),a)) (f:=λp=>bX p.length++p) (e:=id) (c:=1000011) (m0:=bX l.length) (cap:=200000000)
  K (by omega) (λi a x J H O=>?_) (λa=>?_) (n:=n) (by omega)
 ·rw[show qco_W0 n ((l,((l.length:Int),0)),bX l.length)=_ from h,ya];rfl
 ·have hi:=aU J;have M:=a7 x.length;have N:=hc x H;rw[yi]at O;show qco_B0 n l (l.length:Int) (i:Int) a=_;unfold qco_B0;rw[decide_eq_true (by omega),yh,aE,J,ya,aB,eM (by omega) (by omega),qdd_eq n x.length (by omega) (by omega),ya,bB (by rw[yi];omega),yh,bB (by simp only[yi];omega),yh,aT (by omega),yw1]
 ·show qco_B0 n l (l.length:Int) (l.length:Int) a=_;unfold qco_B0;rw[decide_eq_false (by omega),yg];rfl
theorem RV(n:Nat)(m:aX)(H:Hi m)(hn:200≤n):qal n m.recs m.funcs m.imps m.ints m.texts=some (if c8 m=true then(Cc m,0)else([],2)):=by
 unfold qal;rw[Vf n m (by omega),ya];cases hf:c8 m with
 |false=>rfl
 |true=>
  obtain⟨N,l1⟩:=PK n m H hf hn;obtain⟨U,l2⟩:=Lq n m H hf hn;obtain⟨K,l3⟩:=Pe n m H hf hn;obtain⟨O,l4⟩:=PL n m H hf hn;obtain⟨M,l5⟩:=Ug n m hf hn;rw[yf1,yg,N,ya,U,ya,K,ya,O,ya,M,ya,UF n _ (by simp) ?_ hn,ya,if_pos rfl]
  ·rfl
  ·intro x J;simp only[yk1,List.not_mem_nil,or_false]at J;rcases J with rfl|rfl|rfl|rfl|rfl<;>omega
end Sx
end
section
namespace Sx
open Go Go.Ab
def pY(recs most:Int)(l:List cQ):List Int×Bool:=if l.all (iJ recs)=true then(dP l,decide ((l.length:Int)≤most))else([],false)
theorem sV(recs H:Int)(l:List cQ):(pY recs H l).2=cE recs H l:=by
 unfold pY cE;cases l.all (iJ recs)<;>simp
theorem pD{recs H:Int}{l:List cQ}(h:cE recs H l=true):(pY recs H l).1=dP l:=by
 simp only[cE,yc]at h;unfold pY;rw[if_pos h.2]
theorem vM(recs H:Int)(l:List cQ):(pY recs H l).1.length≤11+22*l.length:=by
 unfold pY;split
 ·exact gZ l
 ·simp
theorem rD(n:Nat)(l:List cQ)(recs H:Int)(Y:PQ l)(hl:l.length≤5000)(hn:6000≤n):qak n l recs H=some (pY recs H l):=by
 unfold qak;have hv:=a7 l.length;rw[aB,eM (by omega) (by omega),fC n l.length (by omega) (by omega),ya];have h:=fI (B:=λs=>qak_B0 n s.1.1 s.1.2.1 s.1.2.2.1 s.1.2.2.2 s.2) (xs:=l) (mk:=λi a=>((l,(recs,(H,(i:Int)))),a))
  (I:=λi a=>a=bX l.length++(l.take i).flatMap oE/\(l.take i).all (iJ recs)=true)
  (Q:=λy=>(l.all (iJ recs)=true/\y=Sum.inr ((l,H),dP l))\/(l.all (iJ recs)=false/\∃m,y=Sum.inl (([],false),m)))
  (λi a x K hI=>?_) (λa hI=>?_) l.length 0 n (bX l.length) (by omega) ⟨by simp,rfl⟩ (by omega)
 ·obtain⟨y,W,V⟩:=h;rw[show qak_W0 n ((l,(recs,(H,0))),bX l.length)=some y from W,ya];unfold pY;rcases V with ⟨O,rfl⟩|⟨O,m,rfl⟩
  ·rw[if_pos O];rfl
  ·rw[if_neg (by rw[O];simp)]
 ·have hi:=aU K;obtain⟨rfl,M⟩:=hI;have hfl:=cY oE 22 (l.take i) λt _=>iI t;have Z:=iI x;have U:(l.take i).length=i:=by rw[yj2];omega
  have N:qak_B0 n l recs H (i:Int) (bX l.length++(l.take i).flatMap oE)=(if iJ recs x=true then some (Sum.inl ((l,(recs,(H,((i+1:Nat):Int)))),bX l.length++(l.take i).flatMap oE++oE x))else some (Sum.inr (Sum.inl (([],false),bX l.length++(l.take i).flatMap oE)))):=by
   unfold qak_B0;rw[aB,decide_eq_true (by omega),yh,aE,K,ya,Cb,ya,ya,B6 n x (Y x (yj K)) (by omega),ya,bB (by simp only[yi];omega),aT (by omega)];cases iJ recs x<;>rfl
  by_cases J:iJ recs x=true
  ·rw[if_pos J]at N;exact .inl ⟨_,N,by rw[eO K,yw1],by rw[kM K,M,J];rfl⟩
  ·rw[if_neg J]at N;exact .inr ⟨_,N,.inr ⟨CU K (by simpa using J),_,rfl⟩⟩
 ·obtain⟨rfl,M⟩:=hI;rw[yu2]at M⊢
  refine⟨Sum.inr ((l,H),dP l),?_,.inl ⟨M,rfl⟩⟩;show qak_B0 n l recs H (l.length:Int) _=_;unfold qak_B0;rw[aB,decide_eq_false (by omega),yg];rfl
structure wJ (m:aX):Prop where
 n1:m.recs.length≤200
 n2:m.funcs.length≤200
 n3:m.imps.length≤200
 n4:m.ints.length≤200
 n5:m.texts.length≤200
 recs: ∀l∈m.recs,l.length≤3000
 funcs: ∀f∈m.funcs,f.1.length≤3000/\f.2.2.2.1.length≤3000/\f.2.2.2.2.length≤3000
 imps: ∀i∈m.imps,i.1.length≤3000
 texts: ∀s∈m.texts,s.size≤3000
abbrev aL(m:aX):List (List cQ)×List gH×List S2×List Int×List ByteArray:=(m.recs,(m.funcs,(m.imps,(m.ints,m.texts))))
theorem U2(n:Nat)(m:aX)(U:Hi m)(hL:wJ m)(h8:m.recs.length≤8)(hn:6000≤n): ∃b,qau_W0 n (((m.recs.length:Int),(true,0)),(aL m,bX m.recs.length))=some (((m.recs.length:Int),m.recs.all (cE m.recs.length 6)),(aL m,b))/\
  (m.recs.all (cE m.recs.length 6)=true->b=dJ dP m.recs):=by
 have hv:=a7 m.recs.length;have h:=fI (B:=λs=>qau_B0 n s.1.1 s.1.2.1 s.1.2.2 s.2.1.1 s.2.1.2.1 s.2.1.2.2.1 s.2.1.2.2.2.1 s.2.1.2.2.2.2 s.2.2) (xs:=m.recs) (mk:=λi (a:Bool×List Int)=>(((m.recs.length:Int),(a.1,(i:Int))),(aL m,a.2)))
  (I:=λi a=>a.1=(m.recs.take i).all (cE m.recs.length 6)/\a.2.length≤11+70000*i/\(a.1=true->a.2=bX m.recs.length++(m.recs.take i).flatMap dP))
  (Q:=λy=> ∃b,y=(((m.recs.length:Int),m.recs.all (cE m.recs.length 6)),(aL m,b))/\(m.recs.all (cE m.recs.length 6)=true->b=dJ dP m.recs))
  (λi a x J hI=>?_) (λa hI=>?_) m.recs.length 0 n (true,bX m.recs.length) (by omega) ⟨rfl,by simp;omega,λ_=>by simp⟩ (by omega)
 ·obtain⟨y,H,b,rfl,N⟩:=h;exact⟨b,H,N⟩
 ·have hi:=aU J;have hm:=yj J;have V:=hL.recs x hm;have O:=vM m.recs.length 6 x;obtain⟨H,N,M⟩:=hI;refine .inl ⟨(a.1&&(pY m.recs.length 6 x).2,a.2++(pY m.recs.length 6 x).1),?_,?_,?_,?_⟩
  ·show qau_B0 n (m.recs.length:Int) a.1 (i:Int) m.recs m.funcs m.imps m.ints m.texts a.2=_;unfold qau_B0;rw[decide_eq_true (by omega),yh,aE,J,ya,rD n x _ _ (U.recs x hm) (by omega) hn,ya,bB (by rw[yi];omega),yh,aT (by omega)];cases a.1<;>rfl
  ·rw[H,kM J,sV]
  ·simp only[yi];omega
  ·intro K;simp only[yc,sV]at K;simp only[];rw[M K.1,pD K.2,eO J,yw1]
 ·obtain⟨H,N,M⟩:=hI;rw[yu2]at H M;refine⟨_,?_,a.2,rfl,λK=>M (H.trans K)⟩;show qau_B0 n (m.recs.length:Int) a.1 (m.recs.length:Int) m.recs m.funcs m.imps m.ints m.texts a.2=_;unfold qau_B0;rw[decide_eq_false (by omega),yg,H]
theorem Vw(n:Nat)(m:aX)(M:Int)(j:Int)(K H:List Int)(f:gH)(hc:f.2.2.2.2.length≤64)(V:H.length≤4000000)(hn:6000≤n):
  ∃y,qau_W4 n ((M,(true,(j,0))),(aL m,(K,(H,f))))=some y/\
   ((f.2.2.2.2.any kP=false/\y=Sum.inr ((M,(true,j)),(aL m,(K,(H++f.2.2.2.2.flatMap oX,f)))))\/(f.2.2.2.2.any kP=true/\∃z,y=Sum.inl (([],false),z))):=by
 refine fI (B:=λs=>qau_B4 n s.1.1 s.1.2.1 s.1.2.2.1 s.1.2.2.2 s.2.1.1 s.2.1.2.1 s.2.1.2.2.1 s.2.1.2.2.2.1 s.2.1.2.2.2.2 s.2.2.1 s.2.2.2.1 s.2.2.2.2.1 s.2.2.2.2.2.1 s.2.2.2.2.2.2.1 s.2.2.2.2.2.2.2.1 s.2.2.2.2.2.2.2.2) (xs:=f.2.2.2.2)
  (mk:=λi (a:List Int)=>((M,(true,(j,(i:Int)))),(aL m,(K,(a,f))))) (I:=λi a=>a=H++(f.2.2.2.2.take i).flatMap oX/\(f.2.2.2.2.take i).any kP=false) (λi a x N hI=>?_) (λa hI=>?_) f.2.2.2.2.length 0 n H (by omega) ⟨by simp,rfl⟩ (by omega)
 ·have hi:=aU N;obtain⟨rfl,O⟩:=hI;have hfl:=cY oX 23 (f.2.2.2.2.take i) λt _=>zD t;have Z:=zD x;have W:(f.2.2.2.2.take i).length=i:=by rw[yj2];omega
  have Y:(((oX x).length:Int)==0)=kP x:=by
   rw[<-MR];cases(oX x).length<;>rfl
  have U:qau_B4 n M true j (i:Int) m.recs m.funcs m.imps m.ints m.texts K (H++(f.2.2.2.2.take i).flatMap oX) f.1 f.2.1 f.2.2.1 f.2.2.2.1 f.2.2.2.2=
    (if kP x=true then some (Sum.inr (Sum.inl (([],false),(aL m,(K,(H++(f.2.2.2.2.take i).flatMap oX,f))))))else some (Sum.inl ((M,(true,(j,((i+1:Nat):Int)))),(aL m,(K,(H++(f.2.2.2.2.take i).flatMap oX++oX x,f)))))):=by
   unfold qau_B4;rw[aB,decide_eq_true (by omega),yh,aE,N,ya,Ng n x (by omega),ya,aB,Y,bB (by simp only[yi];omega),aT (by omega)];cases kP x<;>rfl
  by_cases J:kP x=true
  ·rw[if_pos J]at U;exact .inr ⟨_,U,.inr ⟨List.any_eq_true.2 ⟨x,yj N,J⟩,_,rfl⟩⟩
  ·rw[if_neg J]at U;refine .inl ⟨_,U,by rw[eO N,yw1],?_⟩;rw[ye3,N,List.any_append,O];simpa using J
 ·obtain⟨rfl,O⟩:=hI;rw[yu2]at O⊢
  refine⟨_,?_,.inl ⟨O,rfl⟩⟩;show qau_B4 n M true j (f.2.2.2.2.length:Int) m.recs m.funcs m.imps m.ints m.texts K (H++f.2.2.2.2.flatMap oX) f.1 f.2.1 f.2.2.1 f.2.2.2.1 f.2.2.2.2=_;unfold qau_B4;rw[aB,decide_eq_false (by omega),yg]
theorem Ue(n:Nat)(m:aX)(ho:Hi m)(hL:wJ m)(h1:1≤m.funcs.length)(h8:m.funcs.length≤8)(ok:Bool)(W:List Int)(hn:6000≤n):
  ∃y,qau_W2 n (((m.recs.length:Int),(ok,0)),(aL m,(W,bX m.funcs.length)))=some y/\
   (((ok&&m.funcs.all (qP m.recs.length))=true/\y=Sum.inr (((m.recs.length:Int),true),(aL m,(W,dJ vI m.funcs))))\/((ok&&m.funcs.all (qP m.recs.length))=false/\∃z,y=Sum.inl (([],false),z))):=by
 have hv:=a7 m.funcs.length;refine fI (B:=λs=>qau_B2 n s.1.1 s.1.2.1 s.1.2.2 s.2.1.1 s.2.1.2.1 s.2.1.2.2.1 s.2.1.2.2.2.1 s.2.1.2.2.2.2 s.2.2.1 s.2.2.2) (xs:=m.funcs) (mk:=λi (a:Bool×List Int)=>(((m.recs.length:Int),(a.1,(i:Int))),(aL m,(W,a.2))))
  (I:=λi a=>(i=0->a.1=ok)/\(0<i->a.1=true/\ok=true)/\(m.funcs.take i).all (qP m.recs.length)=true/\a.2=bX m.funcs.length++(m.funcs.take i).flatMap vI)
  (λi a x hx hI=>?_) (λa hI=>?_) m.funcs.length 0 n (ok,bX m.funcs.length) (by omega) ⟨λ_=>rfl,λh=>by omega,rfl,by simp⟩ (by omega)
 ·have hi:=aU hx;have hm:=yj hx;obtain⟨l1,l2,l3⟩:=hL.funcs x hm;obtain⟨o1,o2,o3⟩:=ho.funcs x hm;obtain⟨ia,ib,hg,J⟩:=hI;have htl:(m.funcs.take i).length=i:=by rw[yj2];omega
  have hfl:=cY vI 1900 (m.funcs.take i) λt ht=>(zM (ya1.1 hg t ht)).2.2.2.2;have hal:a.2.length≤20000:=by rw[J,yi];omega
  have V:a.1=ok:=by
   rcases Nat.eq_zero_or_pos i with h|h
   ·exact ia h
   ·obtain⟨e1,e2⟩:=ib h;rw[e1,e2]
  have exit:(a.1&&qP m.recs.length x)=false->(ok&&m.funcs.all (qP m.recs.length))=false:=by
   intro h;rw[V]at h;cases ok with
   |false=>rfl
   |true=>
    have h:qP m.recs.length x=false:=h;rw[yq1];exact CU hx h
  obtain⟨N,k,O,U,K⟩:=x;simp only at l1 l2 l3 o1 o2 o3;have t1:=vM m.recs.length 4 N;have t2:=vM m.recs.length (8-(N.length:Int)) U;have t3:=iI (k,O);have t4:=a7 K.length;have H: ∀s,qau_B2 n (m.recs.length:Int) a.1 (i:Int) m.recs m.funcs m.imps m.ints m.texts W a.2=s->(λs=>qau_B2 n s.1.1 s.1.2.1 s.1.2.2 s.2.1.1 s.2.1.2.1 s.2.1.2.2.1 s.2.1.2.2.2.1 s.2.1.2.2.2.2 s.2.2.1 s.2.2.2) (((m.recs.length:Int),(a.1,(i:Int))),(aL m,(W,a.2)))=s:=λs h=>h;unfold qau_B2 at H;rw[aB,decide_eq_true (by omega),yh,aE,hx,ya]at H;simp only[]at H;rw[rD n N _ _ o1 (by omega) hn,ya,aB,cW (by omega) (by omega),rD n U _ _ o3 (by omega) hn,ya,sV,sV,Cb n (k,O),ya,aB]at H;have Y:qP m.recs.length (N,k,O,U,K)=(cE m.recs.length 4 N&&(iJ m.recs.length (k,O)&&(cE m.recs.length (8-(N.length:Int)) U&&(decide (1≤K.length)&&(decide (K.length≤64)&&!K.any kP))))):=rfl;rw[Y]at exit;cases ha:a.1 with
  |false=>
   rw[ha]at H exit;exact .inr ⟨_,H _ rfl,.inr ⟨exit rfl,_,rfl⟩⟩
  |true=>
   rw[ha]at H exit;cases g1:cE m.recs.length 4 N with
   |false=>
    rw[g1]at H exit;exact .inr ⟨_,H _ rfl,.inr ⟨exit rfl,_,rfl⟩⟩
   |true=>
    rw[g1]at H exit;cases g2:cE m.recs.length (8-(N.length:Int)) U with
    |false=>
     rw[g2]at H exit;exact .inr ⟨_,H _ rfl,.inr ⟨exit (by simp),_,rfl⟩⟩
    |true=>
     rw[g2]at H exit;cases g3:iJ m.recs.length (k,O)with
     |false=>
      rw[g3]at H exit;exact .inr ⟨_,H _ rfl,.inr ⟨exit (by simp),_,rfl⟩⟩
     |true=>
      rw[g3]at H exit;by_cases c1:1≤K.length
      ·rw[decide_eq_true (by omega:(K.length:Int)≥1)]at H;rw[decide_eq_true c1]at exit;by_cases c2:K.length≤64
       ·rw[decide_eq_true (by omega:(K.length:Int)≤64)]at H;rw[decide_eq_true c2]at exit;rw[pD g1]at H t1;rw[pD g2]at H t2;simp only[yh,yf1,yg]at H
        rw[bB (by simp only[yi];omega),yh,B6 n (k,O) o2 (by omega),ya,bB (by simp only[yi];omega),yh,bB (by simp only[yi];omega),yh,eM (by omega) (by omega),fC n K.length (by omega) (by omega),
         ya,bB (by simp only[yi];omega),yh]at H
        obtain⟨y,hy,Z⟩:=Vw n m (m.recs.length:Int) (i:Int) W ((((a.2++dP N)++oE (k,O))++dP U)++bX K.length) (N,k,O,U,K) c2 (by simp only[yi];omega) hn;rw[show qau_W4 n (((m.recs.length:Int),(true,((i:Int),0))),((m.recs,(m.funcs,(m.imps,(m.ints,m.texts)))),(W,(((((a.2++dP N)++oE (k,O))++dP U)++bX K.length),(N,(k,(O,(U,K))))))))=some y from hy,ya]at H;rcases Z with ⟨M,rfl⟩|⟨M,z,rfl⟩
        ·simp only[]at H;rw[aT (by omega)]at H;refine .inl ⟨(true,((((a.2++dP N)++oE (k,O))++dP U)++bX K.length)++K.flatMap oX),H _ rfl,λh=>by omega,λ_=>⟨rfl,V.symm.trans ha⟩,?_,?_⟩
         ·rw[kM hx,hg,Y,g1,g2,g3,decide_eq_true c1,decide_eq_true c2,M];rfl
         ·rw[eO hx,J];simp only[vI,yw1]
        ·exact .inr ⟨_,H _ rfl,.inr ⟨exit (by simp only[]at M;rw[M];rfl),_,rfl⟩⟩
       ·rw[decide_eq_false (by omega: ¬(K.length:Int)≤64)]at H;rw[decide_eq_false c2]at exit;exact .inr ⟨_,H _ rfl,.inr ⟨exit (by simp),_,rfl⟩⟩
      ·rw[decide_eq_false (by omega: ¬(K.length:Int)≥1)]at H;rw[decide_eq_false c1]at exit;exact .inr ⟨_,H _ rfl,.inr ⟨exit (by simp),_,rfl⟩⟩
 ·obtain⟨ia,ib,hg,J⟩:=hI;rw[yu2]at hg J;obtain⟨ha,V⟩:=ib (by omega);refine⟨_,?_,.inl ⟨by rw[V,hg];rfl,rfl⟩⟩;show qau_B2 n (m.recs.length:Int) a.1 (m.funcs.length:Int) m.recs m.funcs m.imps m.ints m.texts W a.2=_;unfold qau_B2;rw[aB,decide_eq_false (by omega),yg,ha,J];rfl
end Sx
end
section
namespace Sx
open Go Go.Ab
theorem Vk(n:Nat)(m:aX)(ho:Hi m)(hL:wJ m)(h8:m.imps.length≤8)(N O:List Int)(hn:6000≤n):
  ∃b,qau_W6 n (((m.recs.length:Int),(true,0)),(aL m,(N,(O,bX m.imps.length))))=some (m.imps.all (yP m.recs.length),(aL m,(N,(O,b))))/\b.length≤2000000/\(m.imps.all (yP m.recs.length)=true->b=dJ Ep m.imps):=by
 have hv:=a7 m.imps.length;have h:=fI (B:=λs=>qau_B6 n s.1.1 s.1.2.1 s.1.2.2 s.2.1.1 s.2.1.2.1 s.2.1.2.2.1 s.2.1.2.2.2.1 s.2.1.2.2.2.2 s.2.2.1 s.2.2.2.1 s.2.2.2.2) (xs:=m.imps) (mk:=λi (a:Bool×List Int)=>(((m.recs.length:Int),(a.1,(i:Int))),(aL m,(N,(O,a.2)))))
  (I:=λi a=>a.1=(m.imps.take i).all (yP m.recs.length)/\a.2.length≤11+70000*i/\(a.1=true->a.2=bX m.imps.length++(m.imps.take i).flatMap Ep))
  (Q:=λy=> ∃b,y=(m.imps.all (yP m.recs.length),(aL m,(N,(O,b))))/\b.length≤2000000/\(m.imps.all (yP m.recs.length)=true->b=dJ Ep m.imps))
  (λi a x U hI=>?_) (λa hI=>?_) m.imps.length 0 n (true,bX m.imps.length) (by omega) ⟨rfl,by simp;omega,λ_=>by simp⟩ (by omega)
 ·obtain⟨y,K,b,rfl,Y⟩:=h;exact⟨b,K,Y⟩
 ·have hi:=aU U;have hm:=yj U;have Z:=hL.imps x hm;obtain⟨o1,o2⟩:=ho.imps x hm;obtain⟨M,k,J⟩:=x;simp only at Z o1 o2;have htl:=vM m.recs.length 4 M;have t3:=iI (k,J);obtain⟨K,Y,W⟩:=hI;have H:yP m.recs.length (M,k,J)=(cE m.recs.length 4 M&&iJ m.recs.length (k,J)):=rfl;refine .inl ⟨(a.1&&yP m.recs.length (M,k,J),a.2++(pY m.recs.length 4 M).1++oE (k,J)),?_,?_,?_,?_⟩
  ·show qau_B6 n (m.recs.length:Int) a.1 (i:Int) m.recs m.funcs m.imps m.ints m.texts N O a.2=_;unfold qau_B6;rw[aB,decide_eq_true (by omega),yh,aE,U,ya];simp only[ya];rw[rD n M _ _ o1 (by omega) hn,ya,sV,Cb n (k,J),B6 n (k,J) o2 (by omega),H];simp only[ya];rw[bB (by simp only[yi];omega),bB (by simp only[yi];omega),aT (by omega)];cases a.1<;>cases cE m.recs.length 4 M<;>rfl
  ·rw[K,kM U]
  ·simp only[yi];omega
  ·intro V;simp only[yc,H]at V;simp only[];rw[W V.1,pD V.2.1,eO U];simp only[Ep,yw1]
 ·obtain⟨K,Y,W⟩:=hI;rw[yu2]at K W;refine⟨_,?_,a.2,rfl,by omega,λV=>W (K.trans V)⟩;show qau_B6 n (m.recs.length:Int) a.1 (m.imps.length:Int) m.recs m.funcs m.imps m.ints m.texts N O a.2=_;unfold qau_B6;rw[aB,decide_eq_false (by omega),yg,K]
theorem Wl{v:Nat}(hv:v<18446744073709551616):Tz .u64 (v:Int) 256=((v/256:Nat):Int):=by
 show IntKind.u64.wrap ((v:Int).tdiv 256)=_;rw[Int.tdiv_eq_ediv_of_nonneg (by omega),Hr];omega
theorem Mv(n:Nat)(v:Nat)(U:v<18446744073709551616)(hn:20≤n):qbj n (v:Int) 8=some (Bf 8 v):=by
 have h:=fI (B:=λs=>qbj_B0 n s.1.1 s.1.2.1 s.1.2.2 s.2) (xs:=List.range 8) (mk:=λi (a:List Int)=>((((v/256 ^ i:Nat):Int),((8:Int),(i:Int))),a)) (I:=λi a=>a=(List.range i).map λj=>((v/256 ^ j%256:Nat):Int)) (Q:=λy=>y=Bf 8 v)
  (λi a x K hI=>?_) (λa hI=>?_) 8 0 n [] (by simp) rfl (by omega)
 ·obtain⟨y,J,rfl⟩:=h;unfold qbj;rw[Nat.pow_zero,Nat.div_one]at J;rw[show qbj_W0 n (((v:Int),((8:Int),0)),[])=_ from J];rfl
 ·have M:=aU K;rw[yy2]at M;subst hI;have H:v/256 ^ i<18446744073709551616:=Nat.lt_of_le_of_lt (Nat.div_le_self _ _) U;have O:v/256 ^ (i+1)=v/256 ^ i/256:=by rw[Nat.pow_succ,Nat.div_div_eq_div_mul]
  have N:(List.range (i+1)).map (λj=>((v/256 ^ j%256:Nat):Int))=(List.range i).map (λj=>((v/256 ^ j%256:Nat):Int))++ [((v/256 ^ i%256:Nat):Int)]:=by
   rw[List.range_succ,yv3];rfl
  refine .inl ⟨_,?_,rfl⟩;rw[O,N];generalize v/256 ^ i=q at H;show qbj_B0 n (q:Int) 8 (i:Int) ((List.range i).map λj=>((v/256 ^ j%256:Nat):Int))=_;unfold qbj_B0;rw[decide_eq_true (by omega),yh,yh,Ga (by omega),wW (by omega) (by omega),Wl H,bB (by simp;omega),yh,aT (by omega)];rfl
 ·subst hI;refine⟨_,?_,rfl⟩;rfl
theorem Vh(n:Nat)(m:aX)(V:Hi m)(U:m.ints.length≤16)(ok:Bool)(H K J:List Int)(hn:6000≤n):
  qau_W8 n ((ok,0),(aL m,(H,(K,(J,bX m.ints.length)))))=some (ok,(aL m,(H,(K,(J,dJ (λv=>Bf 8 v.toNat) m.ints))))):=by
 have hv:=a7 m.ints.length;have h:=fF (B:=λs=>qau_B8 n s.1.1 s.1.2 s.2.1.1 s.2.1.2.1 s.2.1.2.2.1 s.2.1.2.2.2.1 s.2.1.2.2.2.2 s.2.2.1 s.2.2.2.1 s.2.2.2.2.1 s.2.2.2.2.2) (xs:=m.ints) (mk:=λi a=>((ok,(i:Int)),(aL m,(H,(K,(J,a)))))) (f:=λv=>Bf 8 v.toNat)
  (e:=λa=>(ok,(aL m,(H,(K,(J,a)))))) (c:=8) (m0:=bX m.ints.length) (cap:=40000) (λx N=>by rw[p8];omega) (by omega) (λi a x N M W=>?_) (λa=>?_) (n:=n) (by omega)
 ·exact h
 ·have hi:=aU N;have O:=V.ints x M;obtain⟨u,rfl⟩: ∃u:Nat,x=(u:Int):=⟨x.toNat,by omega⟩
  show qau_B8 n ok (i:Int) m.recs m.funcs m.imps m.ints m.texts H K J a=_;unfold qau_B8;rw[p8]at W;rw[aB,decide_eq_true (by omega),yh,aE,N,ya,Mv n u (by omega) (by omega),ya,bB (by rw[yi,p8];omega),yh,aT (by omega),yz]
 ·show qau_B8 n ok (m.ints.length:Int) m.recs m.funcs m.imps m.ints m.texts H K J a=_;unfold qau_B8;rw[aB,decide_eq_false (by omega),yg]
theorem OY{s:ByteArray}:(Be s).length≤11+s.size:=by
 have:=a7 s.size;rw[Be,yi,nW];omega
theorem TV(n:Nat)(m:aX)(hL:wJ m)(Y:m.texts.length≤16)(ok:Bool)(H N M J:List Int)(hn:6000≤n):
  qau_W10 n ((ok,0),(aL m,(H,(N,(M,(J,bX m.texts.length))))))=some (ok&&m.texts.all λs=>decide (s.size≤32),(aL m,(H,(N,(M,(J,dJ Be m.texts)))))):=by
 have hv:=a7 m.texts.length;have h:=fI (B:=λs=>qau_B10 n s.1.1 s.1.2 s.2.1.1 s.2.1.2.1 s.2.1.2.2.1 s.2.1.2.2.2.1 s.2.1.2.2.2.2 s.2.2.1 s.2.2.2.1 s.2.2.2.2.1 s.2.2.2.2.2.1 s.2.2.2.2.2.2) (xs:=m.texts) (mk:=λi (a:Bool×List Int)=>((a.1,(i:Int)),(aL m,(H,(N,(M,(J,a.2)))))))
  (I:=λi a=>a.1=(ok&&(m.texts.take i).all λs=>decide (s.size≤32))/\a.2.length≤11+3011*i/\a.2=bX m.texts.length++(m.texts.take i).flatMap Be)
  (Q:=λy=>y=(ok&&m.texts.all λs=>decide (s.size≤32),(aL m,(H,(N,(M,(J,dJ Be m.texts)))))))
  (λi a x O hI=>?_) (λa hI=>?_) m.texts.length 0 n (ok,bX m.texts.length) (by omega) ⟨by simp,by simp;omega,by simp⟩ (by omega)
 ·obtain⟨y,K,rfl⟩:=h;exact K
 ·have hi:=aU O;have hs:=hL.texts x (yj O);have Z:=a7 x.size;obtain⟨K,W,U⟩:=hI;have V:decide (CL x≤32)=decide (x.size≤32):=by
   unfold CL;by_cases h:x.size≤32
   ·rw[decide_eq_true h,decide_eq_true (by omega)]
   ·rw[decide_eq_false h,decide_eq_false (by omega)]
  refine .inl ⟨(a.1&&decide (x.size≤32),a.2++Be x),?_,?_,?_,?_⟩
  ·show qau_B10 n a.1 (i:Int) m.recs m.funcs m.imps m.ints m.texts H N M J a.2=_;unfold qau_B10;rw[aB,decide_eq_true (by omega),yh,aE,O];simp only[ya];rw[show bJ .u64 (CL x)=((x.size:Nat):Int)from eM (a:=((x.size:Nat):Int)) (by omega) (by omega),fC n x.size (by omega) (by omega)];simp only[ya];rw[bB (by rw[yi];omega),bB (by simp only[yi,nW];omega),aT (by omega),V];cases a.1<;>simp[Be]
  ·simp only[];rw[K,kM O,Bool.and_assoc]
  ·have:=OY (s:=x);simp only[yi];omega
  ·simp only[];rw[U,eO O,yw1]
 ·obtain⟨K,W,U⟩:=hI;rw[yu2]at K U;refine⟨_,?_,rfl⟩;show qau_B10 n a.1 (m.texts.length:Int) m.recs m.funcs m.imps m.ints m.texts H N M J a.2=_;unfold qau_B10;rw[aB,decide_eq_false (by omega),yg,K,U];rfl
theorem PO(n:Nat)(l:List (List Int))(hl:l.length≤100)(hc: ∀x∈l,x.length≤3000000)(hn:200≤n):qbv n l=some (Uu l):=by
 have hv:=a7 l.length;have K: ∀x∈l,(bX x.length++x).length≤3000011:=λx J=>by
  have:=a7 x.length;have:=hc x J;rw[yi];omega
 unfold qbv;rw[aB,eM (by omega) (by omega),fC n l.length (by omega) (by omega),ya];have h:=fF (B:=λs=>qbv_B0 n s.1.1 s.1.2 s.2) (xs:=l) (mk:=λi a=>((l,(i:Int)),a)) (f:=λp=>bX p.length++p) (e:=id) (c:=3000011) (m0:=bX l.length) (cap:=400000000)
  K (by omega) (λi a x J H O=>?_) (λa=>?_) (n:=n) (by omega)
 ·rw[show qbv_W0 n ((l,0),bX l.length)=_ from h,ya];rfl
 ·have hi:=aU J;have M:=a7 x.length;have N:=hc x H;rw[yi]at O;show qbv_B0 n l (i:Int) a=_;unfold qbv_B0;rw[aB,decide_eq_true (by omega),yh,aE,J];simp only[ya];rw[aB,eM (by omega) (by omega),fC n x.length (by omega) (by omega),ya,bB (by rw[yi];omega),yh,bB (by simp only[yi];omega),yh,aT (by omega),yw1]
 ·show qbv_B0 n l (l.length:Int) a=_;unfold qbv_B0;rw[aB,decide_eq_false (by omega),yg];rfl
theorem Mx(n:Nat)(m:aX)(U:Hi m)(hL:wJ m)(hn:6000≤n): ∃b,qau n m.recs m.funcs m.imps m.ints m.texts=some (b,c8 m)/\(c8 m=true->b=Cc m):=by
 unfold qau;rw[aB m.recs,aB m.funcs,aB m.imps,aB m.ints,aB m.texts];have N:c8 m=false->∃b:List Int,some (([]:List Int),false)=some (b,c8 m)/\(c8 m=true->b=Cc m):=λh=>⟨[],by rw[h],λh'=>by rw[h]at h';cases h'⟩
 by_cases h1:m.recs.length≤8
 case neg=>
  rw[decide_eq_true (by omega:(m.recs.length:Int)>8),yh];exact N (by unfold c8;rw[decide_eq_false h1];rfl)
 rw[decide_eq_false (by omega: ¬(m.recs.length:Int)>8),yg];by_cases Z:1≤m.funcs.length
 case neg=>
  rw[decide_eq_true (by omega:(m.funcs.length:Int)<1),yh];exact N (by unfold c8;rw[decide_eq_false Z];simp)
 rw[decide_eq_false (by omega: ¬(m.funcs.length:Int)<1),yg];by_cases V:m.funcs.length≤8
 case neg=>
  rw[decide_eq_true (by omega:(m.funcs.length:Int)>8),yh];exact N (by unfold c8;rw[decide_eq_false V];simp)
 rw[decide_eq_false (by omega: ¬(m.funcs.length:Int)>8),yg];by_cases h4:m.imps.length≤8
 case neg=>
  rw[decide_eq_true (by omega:(m.imps.length:Int)>8),yh];exact N (by unfold c8;rw[decide_eq_false h4];simp)
 rw[decide_eq_false (by omega: ¬(m.imps.length:Int)>8),yg];by_cases Y:m.ints.length≤16
 case neg=>
  rw[decide_eq_true (by omega:(m.ints.length:Int)>16),yh];exact N (by unfold c8;rw[decide_eq_false Y];simp)
 rw[decide_eq_false (by omega: ¬(m.ints.length:Int)>16),yg];by_cases W:m.texts.length≤16
 case neg=>
  rw[decide_eq_true (by omega:(m.texts.length:Int)>16),yh];exact N (by unfold c8;rw[decide_eq_false W];simp)
 rw[decide_eq_false (by omega: ¬(m.texts.length:Int)>16),yg];have H:c8 m=(m.recs.all (cE m.recs.length 6)&&m.funcs.all (qP m.recs.length)&&(m.imps.all (yP m.recs.length)&&m.texts.all λs=>decide (s.size≤32))):=by
  unfold c8;rw[decide_eq_true h1,decide_eq_true Z,decide_eq_true V,decide_eq_true h4,decide_eq_true Y,decide_eq_true W];simp only[yq1,Bool.and_assoc]
 obtain⟨M,e1,p1⟩:=U2 n m U hL h1 hn;obtain⟨y,e2,p2⟩:=Ue n m U hL Z V (m.recs.all (cE m.recs.length 6)) M hn;rw[eM (by omega) (by omega),fC n m.recs.length (by omega) (by omega),ya];rw[show qau_W0 n (((m.recs.length:Int),(true,0)),((m.recs,(m.funcs,(m.imps,(m.ints,m.texts)))),bX m.recs.length))=_ from e1,ya];simp only[];rw[aB m.funcs,eM (by omega) (by omega),fC n m.funcs.length (by omega) (by omega),ya];rw[show qau_W2 n (((m.recs.length:Int),(m.recs.all (cE m.recs.length 6),0)),((m.recs,(m.funcs,(m.imps,(m.ints,m.texts)))),(M,bX m.funcs.length)))=_ from e2,ya];rcases p2 with ⟨hf,rfl⟩|⟨hf,z,rfl⟩
 ·have J:=hf;rw[yc]at J;obtain⟨O,e3,l3,p3⟩:=Vk n m U hL h4 M (dJ vI m.funcs) hn;simp only[];rw[aB m.imps,eM (by omega) (by omega),fC n m.imps.length (by omega) (by omega),ya];rw[show qau_W6 n (((m.recs.length:Int),(true,0)),((m.recs,(m.funcs,(m.imps,(m.ints,m.texts)))),(M,(dJ vI m.funcs,bX m.imps.length))))=_ from e3,ya];simp only[];rw[aB m.ints,eM (by omega) (by omega),fC n m.ints.length (by omega) (by omega),ya];rw[show qau_W8 n ((m.imps.all (yP m.recs.length),0),((m.recs,(m.funcs,(m.imps,(m.ints,m.texts)))),(M,(dJ vI m.funcs,(O,bX m.ints.length)))))=_ from Vh n m U Y _ M _ O hn,ya];simp only[];rw[aB m.texts,eM (by omega) (by omega),fC n m.texts.length (by omega) (by omega),ya];rw[show qau_W10 n ((m.imps.all (yP m.recs.length),0),((m.recs,(m.funcs,(m.imps,(m.ints,m.texts)))),(M,(dJ vI m.funcs,(O,(dJ (λv=>Bf 8 v.toNat) m.ints,bX m.texts.length))))))=_ from TV n m hL W _ M _ O _ hn,ya];simp only[];have v1:=a7 m.recs.length;have v2:=a7 m.funcs.length;have v4:=a7 m.ints.length;have v5:=a7 m.texts.length;have c1:=cY dP 143 m.recs λx K=>by
   have:=gZ x;have:=lD (ya1.1 J.1 x K);omega
  have c2:=cY vI 1900 m.funcs λx K=>(zM (ya1.1 J.2 x K)).2.2.2.2;have c4:=cY (λv:Int=>Bf 8 v.toNat) 8 m.ints λx K=>by rw[p8];omega
  have c5:=cY Be 3011 m.texts λx K=>by
   have:=OY (s:=x);have:=hL.texts x K;omega
  rw[PO n [M,dJ vI m.funcs,O,dJ (λv=>Bf 8 v.toNat) m.ints,dJ Be m.texts] (by simp) ?_ (by omega),ya]
  ·refine⟨_,by rw[H,J.1,J.2];rfl,λh=>?_⟩;rw[H,yc,yc (m.imps.all _)]at h;rw[p1 J.1,p3 h.2.1];rfl
  ·intro x K;simp only[yk1,List.not_mem_nil,or_false]at K;rcases K with rfl|rfl|rfl|rfl|rfl
   ·rw[p1 J.1,dJ,yi];omega
   ·rw[dJ,yi];omega
   ·omega
   ·rw[dJ,yi];omega
   ·rw[dJ,yi];omega
 ·exact N (by rw[H,hf];rfl)
end Sx
end
section
namespace Sx
open Go Go.Ab
structure Ow (m:aX):Prop where
 n1:m.recs.length≤140737488351232
 n2:m.funcs.length≤140737488351232
 n3:m.imps.length≤140737488351232
 n4:m.ints.length≤140737488351232
 n5:m.texts.length≤140737488351232
 recs: ∀l∈m.recs,l.length≤140737488351232
 funcs: ∀f∈m.funcs,f.1.length≤140737488351232/\f.2.2.2.1.length≤140737488351232/\f.2.2.2.2.length≤140737488351232
 imps: ∀i∈m.imps,i.1.length≤140737488351232
 texts: ∀s∈m.texts,s.size≤140737488351232
theorem Dx{S X A:Type}{B:S->Option (S⊕X)}{xs:List A}{mk:Nat->Int->S}{f:A->Nat}{e:Int->X}{c:Nat}{base:Int}(hb:0≤base)(hc: ∀x∈xs,f x≤c)(U:base+(c:Int)*(xs.length:Int)≤9000000000000000000)
  (hs: ∀i a x,xs[i]?=some x->x∈xs->0≤a->a+(f x:Int)≤9000000000000000000->B (mk i a)=some (.inl (mk (i+1) (a+(f x:Int))))) (Y: ∀a,B (mk xs.length a)=some (.inr (e a))) {n:Nat} (hn:xs.length<n):
  ∃a,aM B n (mk 0 base)=some (e a)/\base≤a/\a≤base+(c:Int)*(xs.length:Int)/\∀x∈xs,(f x:Int)≤a:=by
 have h:=fI (B:=B) (xs:=xs) (mk:=mk) (I:=λi a=>base≤a/\a≤base+(c:Int)*(i:Int)/\∀x∈xs.take i,(f x:Int)≤a) (Q:=λy=> ∃a,y=e a/\base≤a/\a≤base+(c:Int)*(xs.length:Int)/\∀x∈xs,(f x:Int)≤a)
  (λi a x M hI=>?_) (λa hI=>?_) xs.length 0 n base (by omega) ⟨Int.le_refl _,by simp,by simp⟩ hn
 ·obtain⟨y,O,a,rfl,N⟩:=h;exact⟨a,O,N⟩
 ·have W:=aU M;have hm:=yj M;have Z:=hc x hm;obtain⟨O,N,K⟩:=hI;have V:(c:Int)*(i:Int)+(c:Int)≤(c:Int)*(xs.length:Int):=by
   have:(c*(i+1):Nat)≤c*xs.length:=Nat.mul_le_mul_left c W;rw[Nat.mul_succ]at this;have h:=Int.ofNat_le.2 this;simpa using h
  have J:(c:Int)*((i+1:Nat):Int)=(c:Int)*(i:Int)+(c:Int):=by
   rw[Int.natCast_add,Int.mul_add];simp
  refine .inl ⟨_,hs i a x M hm (by omega) (by omega),by omega,by rw[J];omega,λz H=>?_⟩;rw[ye3,M,yr1]at H;rcases H with H|H
  ·have:=K z H;omega
  ·simp at H;subst H;omega
 ·obtain⟨O,N,K⟩:=hI;rw[yu2]at K;exact⟨_,Y a,a,rfl,O,N,K⟩
theorem kL{a b:Int}(h1:0≤a)(h2:0≤b)(h3:a+b≤9000000000000000000):aK .i64 a b=a+b:=aW (by omega) (by omega)
theorem lU(n:Nat)(m:aX)(K:Ow m)(hn:6000≤n): ∃b,qaz n m.recs m.funcs m.imps m.ints m.texts=some b/\(b=true->wJ m):=by
 unfold qaz;have n1:=K.n1;have n2:=K.n2;have n3:=K.n3;have n4:=K.n4;have n5:=K.n5;have hs:aK .i64 (aK .i64 (aK .i64 (aK .i64 (aC m.recs) (aC m.funcs)) (aC m.imps)) (aC m.ints)) (aC m.texts)=((m.recs.length+m.funcs.length+m.imps.length+m.ints.length+m.texts.length:Nat):Int):=by
  simp only[aB];rw[kL (b:=((m.funcs.length:Nat):Int)) (by omega) (by omega) (by omega),kL (b:=((m.imps.length:Nat):Int)) (by omega) (by omega) (by omega),kL (b:=((m.ints.length:Nat):Int)) (by omega) (by omega) (by omega),kL (b:=((m.texts.length:Nat):Int)) (by omega) (by omega) (by omega)];omega
 rw[hs];by_cases W:m.recs.length+m.funcs.length+m.imps.length+m.ints.length+m.texts.length≤200
 case neg=>
  rw[decide_eq_true (by omega),yh];exact⟨false,rfl,λh=>by cases h⟩
 rw[decide_eq_false (by omega),yg];obtain⟨a1,e1,l1,u1,p1⟩:=Dx (B:=λs=>qaz_B0 n s.1.1 s.1.2 s.2.1 s.2.2.1 s.2.2.2.1 s.2.2.2.2.1 s.2.2.2.2.2) (xs:=m.recs) (mk:=λi (a:Int)=>((a,(i:Int)),aL m)) (f:=List.length) (e:=λa=>(a,aL m)) (c:=140737488351232)
  (base := ((m.recs.length + m.funcs.length + m.imps.length + m.ints.length + m.texts.length : Nat) : Int)) (by omega) K.recs (by omega) (fun i a x J hm N H => by
   have O:=aU J;show qaz_B0 n a (i:Int) m.recs m.funcs m.imps m.ints m.texts=_;unfold qaz_B0
   rw[aB,decide_eq_true (by omega),yh,aE,J,ya,aB,kL N (by omega) H,aT (by omega)]) (λa=>by
   show qaz_B0 n a (m.recs.length:Int) m.recs m.funcs m.imps m.ints m.texts=_;unfold qaz_B0
   rw[aB,decide_eq_false (by omega),yg]) (n:=n) (by omega)
 rw[show qaz_W0 n ((((m.recs.length+m.funcs.length+m.imps.length+m.ints.length+m.texts.length:Nat):Int),0),(m.recs,(m.funcs,(m.imps,(m.ints,m.texts)))))=_ from e1,ya];obtain⟨U,Y,l2,u2,p2⟩:=Dx (B:=λs=>qaz_B2 n s.1.1 s.1.2 s.2.1 s.2.2.1 s.2.2.2.1 s.2.2.2.2.1 s.2.2.2.2.2) (xs:=m.funcs) (mk:=λi (a:Int)=>((a,(i:Int)),aL m)) (f:=λf=>f.1.length+f.2.2.2.1.length+f.2.2.2.2.length) (e:=λa=>(a,aL m)) (c:=422212465053696)
  (base := a1) (by omega) (fun f hf => by obtain ⟨h1, h2, h3⟩ := K.funcs f hf; omega) (by omega) (fun i a x J hm N H => by
   have O:=aU J;show qaz_B2 n a (i:Int) m.recs m.funcs m.imps m.ints m.texts=_;unfold qaz_B2;rw[aB,decide_eq_true (by omega),yh,aE,J];simp only[ya,aB];rw[kL (b:=((x.1.length:Nat):Int)) N (by omega) (by omega),kL (b:=((x.2.2.2.1.length:Nat):Int)) (by omega) (by omega) (by omega),kL (b:=((x.2.2.2.2.length:Nat):Int)) (by omega) (by omega) (by omega),aT (by omega)];have:a+((x.1.length:Nat):Int)+((x.2.2.2.1.length:Nat):Int)+((x.2.2.2.2.length:Nat):Int)=a+((x.1.length+x.2.2.2.1.length+x.2.2.2.2.length:Nat):Int):=by omega
   rw[this]) (λa=>by
   show qaz_B2 n a (m.funcs.length:Int) m.recs m.funcs m.imps m.ints m.texts=_;unfold qaz_B2
   rw[aB,decide_eq_false (by omega),yg]) (n:=n) (by omega)
 rw[show qaz_W2 n ((a1,0),(m.recs,(m.funcs,(m.imps,(m.ints,m.texts)))))=_ from Y,ya];obtain⟨V,Z,l3,u3,p3⟩:=Dx (B:=λs=>qaz_B4 n s.1.1 s.1.2 s.2.1 s.2.2.1 s.2.2.2.1 s.2.2.2.2.1 s.2.2.2.2.2) (xs:=m.imps) (mk:=λi (a:Int)=>((a,(i:Int)),aL m)) (f:=λf=>f.1.length) (e:=λa=>(a,aL m)) (c:=140737488351232)
  (base := U) (by omega) K.imps (by omega) (fun i a x J hm N H => by
   have O:=aU J;show qaz_B4 n a (i:Int) m.recs m.funcs m.imps m.ints m.texts=_;unfold qaz_B4
   rw[aB,decide_eq_true (by omega),yh,aE,J,ya,aB,kL N (by omega) H,aT (by omega)]) (λa=>by
   show qaz_B4 n a (m.imps.length:Int) m.recs m.funcs m.imps m.ints m.texts=_;unfold qaz_B4
   rw[aB,decide_eq_false (by omega),yg]) (n:=n) (by omega)
 rw[show qaz_W4 n ((U,0),(m.recs,(m.funcs,(m.imps,(m.ints,m.texts)))))=_ from Z,ya];obtain⟨a4,e4,l4,u4,p4⟩:=Dx (B:=λs=>qaz_B6 n s.1.1 s.1.2 s.2.1 s.2.2.1 s.2.2.2.1 s.2.2.2.2.1 s.2.2.2.2.2) (xs:=m.texts) (mk:=λi (a:Int)=>((a,(i:Int)),aL m)) (f:=ByteArray.size) (e:=λa=>(a,aL m)) (c:=140737488351232)
  (base := V) (by omega) K.texts (by omega) (fun i a x J hm N H => by
   have O:=aU J;show qaz_B6 n a (i:Int) m.recs m.funcs m.imps m.ints m.texts=_;unfold qaz_B6
   rw[aB,decide_eq_true (by omega),yh,aE,J,ya,show CL x=((x.size:Nat):Int)from rfl,kL N (by omega) H,aT (by omega)]) (λa=>by
   show qaz_B6 n a (m.texts.length:Int) m.recs m.funcs m.imps m.ints m.texts=_;unfold qaz_B6
   rw[aB,decide_eq_false (by omega),yg]) (n:=n) (by omega)
 rw[show qaz_W6 n ((V,0),(m.recs,(m.funcs,(m.imps,(m.ints,m.texts)))))=_ from e4,ya];refine⟨_,rfl,λh=>?_⟩;have M:=of_decide_eq_true h;simp only at M;refine⟨by omega,by omega,by omega,by omega,by omega,λx J=>?_,λx J=>?_,λx J=>?_,λx J=>?_⟩
 ·have:=p1 x J;omega
 ·have:=p2 x J;omega
 ·have:=p3 x J;omega
 ·have:=p4 x J;omega
noncomputable def mJ(m:aX)(f:gH)(i:BL):Bool:=(qbi 0 m.recs m.funcs m.imps m.ints m.texts f.1 f.2.1 f.2.2.1 f.2.2.2.1 f.2.2.2.2 i.1 i.2.1 i.2.2).getD false
theorem wV{i:BL}(h:kP i=false):0≤i.2.1/\i.2.1≤255/\0≤i.2.2/\i.2.2≤255:=by
 have:=of_decide_eq_false h;omega
theorem mN{β:Type}{c:Bool}{a b:Option β}(J: ∃x,a=some x)(H: ∃x,b=some x): ∃x,(bif c then a else b)=some x:=by cases c;exact H;exact J
theorem Nz(n:Nat)(m:aX)(f:gH)(i:BL)(J:kP i=false):qbi n m.recs m.funcs m.imps m.ints m.texts f.1 f.2.1 f.2.2.1 f.2.2.2.1 f.2.2.2.2 i.1 i.2.1 i.2.2=some (mJ m f i):=by
 obtain⟨h1,_,_,_⟩:=wV J;have K: ∃b,qbi n m.recs m.funcs m.imps m.ints m.texts f.1 f.2.1 f.2.2.1 f.2.2.2.1 f.2.2.2.2 i.1 i.2.1 i.2.2=some b:=by
  have M:(bif decide (i.2.1<aC m.recs)then(aF m.recs i.2.1).bind λx=>some (decide (i.2.2<aC x))else some false)=some (bif decide (i.2.1<aC m.recs)then decide (i.2.2<aC ((aF m.recs i.2.1).getD []))else false):=by
   cases H:decide (i.2.1<aC m.recs)with
   |false=>rfl
   |true=>
    have H:=of_decide_eq_true H;rw[aB]at H;obtain⟨u,hu⟩: ∃u:Nat,i.2.1=(u:Int):=⟨i.2.1.toNat,by omega⟩
    rw[hu,aE,ye (by omega)];rfl
  unfold qbi;rw[M];exact mN ⟨_,rfl⟩ (mN ⟨_,rfl⟩ (mN ⟨_,rfl⟩ (mN ⟨_,rfl⟩ (mN ⟨_,rfl⟩ (mN ⟨_,rfl⟩ (mN ⟨_,rfl⟩ (mN ⟨_,rfl⟩ (mN ⟨_,rfl⟩ (mN ⟨_,rfl⟩ (mN ⟨_,rfl⟩ ⟨_,rfl⟩))))))))))
 obtain⟨b,J⟩:=K;have:mJ m f i=b:=by
  unfold mJ;rw[show qbi 0 m.recs m.funcs m.imps m.ints m.texts f.1 f.2.1 f.2.2.1 f.2.2.2.1 f.2.2.2.2 i.1 i.2.1 i.2.2=some b from J];rfl
 rw[J,this]
theorem qbu_eq(n:Nat)(m:aX)(f:gH)(i:BL)(H:kP i=false):qbu n m.recs m.funcs m.imps m.ints m.texts f.1 f.2.1 f.2.2.1 f.2.2.2.1 f.2.2.2.2 i.1 i.2.1 i.2.2=some (mJ m f i):=by
 rw[<-Nz n m f i H];rfl
def mT(t:cQ):Bool:=t.1==1||t.1==5
theorem HF(n:Nat)(t:cQ):qck n t.1 t.2=some (mT t):=by
 unfold qck mT;cases t.1==1<;>rfl
noncomputable def Ad(m:aX)(f:gH):Bool:=f.2.2.2.2.any (λi=>!mJ m f i)||f.2.2.2.1.any (λt=>t.1==5)
def HY(i:S2):Bool:=!mT (i.2.1,i.2.2)||i.1.any λt=>!mT t
noncomputable def bQ(m:aX):Int:=if c8 m=false then 2 else if m.funcs.any (Ad m)=true then 1 else if m.imps.any HY=true then 1 else 0
theorem RI(n:Nat)(m:aX)(f:gH)(M: ∀i∈f.2.2.2.2,kP i=false)(hl:f.2.2.2.2.length≤64)(hn:100≤n):
  qe n f.2.2.2.2 m.recs m.funcs m.imps m.ints m.texts f.1 f.2.1 f.2.2.1 f.2.2.2.1 f.2.2.2.2=some (f.2.2.2.2.any (λi=>!mJ m f i),(aL m,f)):=by
 unfold qe qq;have h:=b8 (B:=λs=>qq_B0 n s.1.1 s.1.2.1 s.1.2.2 s.2.1.1 s.2.1.2.1 s.2.1.2.2.1 s.2.1.2.2.2.1 s.2.1.2.2.2.2 s.2.2.1 s.2.2.2.1 s.2.2.2.2.1 s.2.2.2.2.2.1 s.2.2.2.2.2.2) (xs:=f.2.2.2.2) (mk:=λi=>((f.2.2.2.2,(aC f.2.2.2.2,(i:Int))),(aL m,f)))
  (p:=λi=>!mJ m f i) (found:=λi x=>Sum.inl ((i:Int),(aL m,f))) (e:=Sum.inr (aL m,f)) (λi x K=>?_) ?_ f.2.2.2.2.length 0 n (by omega) (by omega)
 ·rw[yd2]at h;rcases h with ⟨J,k,x,_,_,H⟩|⟨J,H⟩
  ·rw[show qq_W0 n ((f.2.2.2.2,(aC f.2.2.2.2,0)),((m.recs,(m.funcs,(m.imps,(m.ints,m.texts)))),(f.1,(f.2.1,(f.2.2.1,(f.2.2.2.1,f.2.2.2.2))))))=_ from H,J];show some (decide ((k:Int)≥0),_)=_;rw[decide_eq_true (by omega)]
  ·rw[show qq_W0 n ((f.2.2.2.2,(aC f.2.2.2.2,0)),((m.recs,(m.funcs,(m.imps,(m.ints,m.texts)))),(f.1,(f.2.1,(f.2.2.1,(f.2.2.2.1,f.2.2.2.2))))))=_ from H,J];rfl
 ·have hi:=aU K;show qq_B0 n f.2.2.2.2 (aC f.2.2.2.2) (i:Int) m.recs m.funcs m.imps m.ints m.texts f.1 f.2.1 f.2.2.1 f.2.2.2.1 f.2.2.2.2=_;unfold qq_B0 qbe;rw[aB,decide_eq_true (by omega),yh,aE,K,ya,qbu_eq n m f x (M x (yj K)),ya,ya,aT (by omega)];cases mJ m f x<;>rfl
 ·show qq_B0 n f.2.2.2.2 (aC f.2.2.2.2) (f.2.2.2.2.length:Int) m.recs m.funcs m.imps m.ints m.texts f.1 f.2.1 f.2.2.1 f.2.2.2.1 f.2.2.2.2=_;unfold qq_B0;rw[aB,decide_eq_false (by omega),yg]
theorem UI(n:Nat)(l:List cQ)(hl:l.length≤64)(hn:100≤n):qh n l=some (l.any λt=>t.1==5):=by
 unfold qh qt;have h:=b8 (B:=λs=>qt_B0 n s.1 s.2.1 s.2.2) (xs:=l) (mk:=λi=>(l,(aC l,(i:Int)))) (p:=λt=>t.1==5) (found:=λi x=>Sum.inl (i:Int)) (e:=Sum.inr ())
  (λi x K=>?_) ?_ l.length 0 n (by omega) (by omega)
 ·rw[yd2]at h;rcases h with ⟨J,k,x,_,_,H⟩|⟨J,H⟩
  ·rw[show qt_W0 n (l,(aC l,0))=some (Sum.inl (k:Int))from H,J];show some (decide ((k:Int)≥0))=_;rw[decide_eq_true (by omega)]
  ·rw[show qt_W0 n (l,(aC l,0))=some (Sum.inr ())from H,J];rfl
 ·have hi:=aU K;show qt_B0 n l (aC l) (i:Int)=_;unfold qt_B0 qbf;rw[aB,decide_eq_true (by omega),yh,aE,K,ya,ya,aT (by omega)];cases x.1==5<;>rfl
 ·show qt_B0 n l (aC l) (l.length:Int)=_;unfold qt_B0;rw[aB,decide_eq_false (by omega),yg]
theorem PD(n:Nat)(l:List cQ)(hl:l.length≤64)(hn:100≤n):qf n l=some (l.any λt=>!mT t):=by
 unfold qf qx;have h:=b8 (B:=λs=>qx_B0 n s.1 s.2.1 s.2.2) (xs:=l) (mk:=λi=>(l,(aC l,(i:Int)))) (p:=λt=>!mT t) (found:=λi x=>Sum.inl (i:Int)) (e:=Sum.inr ())
  (λi x K=>?_) ?_ l.length 0 n (by omega) (by omega)
 ·rw[yd2]at h;rcases h with ⟨J,k,x,_,_,H⟩|⟨J,H⟩
  ·rw[show qx_W0 n (l,(aC l,0))=some (Sum.inl (k:Int))from H,J];show some (decide ((k:Int)≥0))=_;rw[decide_eq_true (by omega)]
  ·rw[show qx_W0 n (l,(aC l,0))=some (Sum.inr ())from H,J];rfl
 ·have hi:=aU K;show qx_B0 n l (aC l) (i:Int)=_;unfold qx_B0 qaq;rw[aB,decide_eq_true (by omega),yh,aE,K,ya,HF n x,ya,ya,aT (by omega)];cases mT x<;>rfl
 ·show qx_B0 n l (aC l) (l.length:Int)=_;unfold qx_B0;rw[aB,decide_eq_false (by omega),yg]
theorem Vn(n:Nat)(i:S2)(H:i.1.length≤64)(hn:100≤n):qbd n i.1 i.2.1 i.2.2=some (HY i):=by
 unfold qbd HY;rw[HF n (i.2.1,i.2.2),ya];cases mT (i.2.1,i.2.2)with
 |false=>rfl
 |true=>rw[yf1,yg,PD n i.1 H hn];rfl
theorem Ui(n:Nat)(l:List S2)(M: ∀i∈l,i.1.length≤64)(hl:l.length≤64)(hn:100≤n):qb n l=some (l.any HY):=by
 unfold qb qm;have h:=b8 (B:=λs=>qm_B0 n s.1 s.2.1 s.2.2) (xs:=l) (mk:=λi=>(l,(aC l,(i:Int)))) (p:=HY) (found:=λi x=>Sum.inl (i:Int)) (e:=Sum.inr ())
  (λi x K=>?_) ?_ l.length 0 n (by omega) (by omega)
 ·rw[yd2]at h;rcases h with ⟨J,k,x,_,_,H⟩|⟨J,H⟩
  ·rw[show qm_W0 n (l,(aC l,0))=some (Sum.inl (k:Int))from H,J];show some (decide ((k:Int)≥0))=_;rw[decide_eq_true (by omega)]
  ·rw[show qm_W0 n (l,(aC l,0))=some (Sum.inr ())from H,J];rfl
 ·have hi:=aU K;show qm_B0 n l (aC l) (i:Int)=_;unfold qm_B0;rw[aB,decide_eq_true (by omega),yh,aE,K,ya,Vn n x (M x (yj K)) hn,ya,aT (by omega)];cases HY x<;>rfl
 ·show qm_B0 n l (aC l) (l.length:Int)=_;unfold qm_B0;rw[aB,decide_eq_false (by omega),yg]
theorem gM{m:aX}(h:c8 m=true):m.funcs.length≤8/\m.imps.length≤8/\1≤m.funcs.length/\(∀f∈m.funcs,(∀i∈f.2.2.2.2,kP i=false)/\f.2.2.2.2.length≤64/\f.2.2.2.1.length≤64/\1≤f.2.2.2.2.length/\f.1.length≤4)/\∀i∈m.imps,i.1.length≤64:=by
 simp only[c8,yc,decide_eq_true_eq,ya1]at h;obtain⟨_,_,V,U,K,N,O,_⟩:=h;refine⟨U,N,V,λf hf=>?_,λi H=>?_⟩
 ·have J:=zM (K f hf);have M:=K f hf;simp only[qP,yc,yx,List.any_eq_false]at M;exact⟨λi H=>by simpa using M.2.2.2.2.2 i H,J.2.2.2.1,by omega,J.2.2.1,J.1⟩
 ·have:=(JJ (O i H)).1;omega
theorem OV(n:Nat)(m:aX)(W:Hi m)(hn:200≤n):qcc n m.recs m.funcs m.imps m.ints m.texts=some (bQ m):=by
 unfold qcc bQ;rw[RV n m W hn,ya];cases hf:c8 m with
 |false=>rfl
 |true=>
  obtain⟨k1,k2,k3,U,k5⟩:=gM hf;rw[if_pos rfl]
  show((qcc_W0 n ((m.funcs,(aC m.funcs,0)),aL m)).bind _)=_
  have h:=fI (B:=λs=>qcc_B0 n s.1.1 s.1.2.1 s.1.2.2 s.2.1 s.2.2.1 s.2.2.2.1 s.2.2.2.2.1 s.2.2.2.2.2) (xs:=m.funcs) (mk:=λi (a:Unit)=>((m.funcs,(aC m.funcs,(i:Int))),aL m)) (I:=λi a=>(m.funcs.take i).any (Ad m)=false)
   (Q:=λy=>(m.funcs.any (Ad m)=true/\∃z,y=Sum.inl (1,z))\/(m.funcs.any (Ad m)=false/\y=Sum.inr (aL m))) (λi a x J hI=>?_) (λa hI=>?_) m.funcs.length 0 n () (by omega) rfl (by omega)
  ·obtain⟨y,V,O⟩:=h;rw[show qcc_W0 n ((m.funcs,(aC m.funcs,0)),aL m)=some y from V,ya];rcases O with ⟨M,z,rfl⟩|⟨M,rfl⟩
   ·rw[M];rfl
   ·rw[M]
    show((qb n m.imps).bind _)=_
    rw[Ui n m.imps k5 (by omega) (by omega),ya];cases m.imps.any HY<;>rfl
  ·have hi:=aU J;have hm:=yj J;obtain⟨Y,N,Z,_⟩:=U x hm;have K:qcc_B0 n m.funcs (aC m.funcs) (i:Int) m.recs m.funcs m.imps m.ints m.texts=(if Ad m x=true then some (Sum.inr (Sum.inl (1,(aL m,x))))else some (Sum.inl ((m.funcs,(aC m.funcs,((i+1:Nat):Int))),aL m))):=by
    unfold qcc_B0 Ad;rw[aB,decide_eq_true (by omega),yh,aE,J,ya,RI n m x Y N (by omega),ya];cases x.2.2.2.2.any λi=>!mJ m x i with
    |true=>rfl
    |false=>
     show((qh n x.2.2.2.1).bind _)=_
     rw[UI n x.2.2.2.1 Z (by omega),ya,aT (by omega)];cases x.2.2.2.1.any λt=>t.1==5<;>rfl
   by_cases H:Ad m x=true
   ·rw[if_pos H]at K;exact .inr ⟨_,K,.inl ⟨List.any_eq_true.2 ⟨x,hm,H⟩,_,rfl⟩⟩
   ·rw[if_neg H]at K;refine .inl ⟨(),K,?_⟩;rw[ye3,J,List.any_append,hI];simpa using H
  ·rw[yu2]at hI;refine⟨_,?_,.inr ⟨hI,rfl⟩⟩;show qcc_B0 n m.funcs (aC m.funcs) (m.funcs.length:Int) m.recs m.funcs m.imps m.ints m.texts=_;unfold qcc_B0;rw[aB,decide_eq_false (by omega),yg]
end Sx
end
section
namespace Sx
open Go Go.Ab
theorem LU(n:Nat)(m:aX)(f:gH)(H:Int)(N: ∀i∈f.2.2.2.2,kP i=false)(hl:f.2.2.2.2.length≤64)(hn:100≤n):
  ∃y,qbm_W2 n ((H,0),(aL m,f))=some y/\((f.2.2.2.2.any (λi=>!mJ m f i)=true/\y=Sum.inl (1,(aL m,f)))\/(f.2.2.2.2.any (λi=>!mJ m f i)=false/\y=Sum.inr (H,(aL m,f)))):=by
 have h:=b8 (B:=λs=>qbm_B2 n s.1.1 s.1.2 s.2.1.1 s.2.1.2.1 s.2.1.2.2.1 s.2.1.2.2.2.1 s.2.1.2.2.2.2 s.2.2.1 s.2.2.2.1 s.2.2.2.2.1 s.2.2.2.2.2.1 s.2.2.2.2.2.2) (xs:=f.2.2.2.2) (mk:=λi=>((H,(i:Int)),(aL m,f)))
  (p:=λi=>!mJ m f i) (found:=λi x=>Sum.inl (1,(aL m,f))) (e:=Sum.inr (H,(aL m,f))) (λi x M=>?_) ?_ f.2.2.2.2.length 0 n (by omega) (by omega)
 ·rw[yd2]at h;rcases h with ⟨K,k,x,_,_,J⟩|⟨K,J⟩
  ·exact⟨_,J,.inl ⟨K,rfl⟩⟩
  ·exact⟨_,J,.inr ⟨K,rfl⟩⟩
 ·have hi:=aU M;show qbm_B2 n H (i:Int) m.recs m.funcs m.imps m.ints m.texts f.1 f.2.1 f.2.2.1 f.2.2.2.1 f.2.2.2.2=_;unfold qbm_B2;rw[aB,decide_eq_true (by omega),yh,aE,M,ya,Nz n m f x (N x (yj M)),ya,aT (by omega)];cases mJ m f x<;>rfl
 ·show qbm_B2 n H (f.2.2.2.2.length:Int) m.recs m.funcs m.imps m.ints m.texts f.1 f.2.1 f.2.2.1 f.2.2.2.1 f.2.2.2.2=_;unfold qbm_B2;rw[aB,decide_eq_false (by omega),yg]
theorem Ik(n:Nat)(m:aX)(f:gH)(H:Int)(hl:f.2.2.2.1.length≤64)(hn:100≤n):
  ∃y,qbm_W4 n ((H,0),(aL m,f))=some y/\((f.2.2.2.1.any (λt=>t.1==5)=true/\y=Sum.inl (1,(aL m,f)))\/(f.2.2.2.1.any (λt=>t.1==5)=false/\y=Sum.inr (H,(aL m,f)))):=by
 have h:=b8 (B:=λs=>qbm_B4 n s.1.1 s.1.2 s.2.1.1 s.2.1.2.1 s.2.1.2.2.1 s.2.1.2.2.2.1 s.2.1.2.2.2.2 s.2.2.1 s.2.2.2.1 s.2.2.2.2.1 s.2.2.2.2.2.1 s.2.2.2.2.2.2) (xs:=f.2.2.2.1) (mk:=λi=>((H,(i:Int)),(aL m,f)))
  (p:=λt=>t.1==5) (found:=λi x=>Sum.inl (1,(aL m,f))) (e:=Sum.inr (H,(aL m,f))) (λi x M=>?_) ?_ f.2.2.2.1.length 0 n (by omega) (by omega)
 ·rw[yd2]at h;rcases h with ⟨K,k,x,_,_,J⟩|⟨K,J⟩
  ·exact⟨_,J,.inl ⟨K,rfl⟩⟩
  ·exact⟨_,J,.inr ⟨K,rfl⟩⟩
 ·have hi:=aU M;show qbm_B4 n H (i:Int) m.recs m.funcs m.imps m.ints m.texts f.1 f.2.1 f.2.2.1 f.2.2.2.1 f.2.2.2.2=_;unfold qbm_B4;rw[aB,decide_eq_true (by omega),yh,aE,M,ya,aT (by omega)];cases x.1==5<;>rfl
 ·show qbm_B4 n H (f.2.2.2.1.length:Int) m.recs m.funcs m.imps m.ints m.texts f.1 f.2.1 f.2.2.1 f.2.2.2.1 f.2.2.2.2=_;unfold qbm_B4;rw[aB,decide_eq_false (by omega),yg]
theorem L7(n:Nat)(m:aX)(k:Nat)(i:S2)(J:m.imps[k]?=some i)(ok:Bool)(hl:i.1.length≤64)(hn:100≤n):
  qbm_W8 n (((k:Int),(ok,0)),aL m)=some (((k:Int),ok&&i.1.all mT),aL m):=by
 have h:=FC (B:=λs=>qbm_B8 n s.1.1 s.1.2.1 s.1.2.2 s.2.1 s.2.2.1 s.2.2.2.1 s.2.2.2.2.1 s.2.2.2.2.2) (xs:=i.1) (mk:=λj (a:Bool)=>(((k:Int),(a,(j:Int))),aL m)) (f:=λa t=>a&&mT t) (e:=λa=>(((k:Int),a),aL m)) (I:=λ_ _=>True)
  (λj a x H _=>⟨?_,trivial⟩) (λa _=>?_) i.1.length 0 n ok (by omega) trivial (by omega)
 ·rw[yd2]at h;have e: ∀(l:List cQ) (b:Bool),l.foldl (λa t=>a&&mT t) b=(b&&l.all mT):=by
   intro l
   induction l with
   |nil=>intro b;simp
   |cons x l K=>intro b;rw[List.foldl_cons,K,yn3,Bool.and_assoc]
  rw[e]at h;exact h.1
 ·have hj:=aU H;show qbm_B8 n (k:Int) a (j:Int) m.recs m.funcs m.imps m.ints m.texts=_;unfold qbm_B8;rw[aE,J,ya,aB,decide_eq_true (by omega),yh,ya,aE,H,ya,aT (by omega)];cases a with
  |false=>rfl
  |true=>
   show((qbq n x.1 x.2).bind _)=_
   rw[show qbq n x.1 x.2=some (mT x)from HF n x];rfl
 ·show qbm_B8 n (k:Int) a (i.1.length:Int) m.recs m.funcs m.imps m.ints m.texts=_;unfold qbm_B8;rw[aE,J,ya,aB,decide_eq_false (by omega),yg]
theorem zT(n:Nat)(m:aX)(ho:Hi m)(hL:wJ m)(hn:6000≤n):qbm n m.recs m.funcs m.imps m.ints m.texts=some (bQ m):=by
 unfold qbm bQ;obtain⟨b,e1,_⟩:=Mx n m ho hL hn;rw[e1,ya];cases hf:c8 m with
 |false=>rfl
 |true=>
  obtain⟨k1,k2,k3,k4,k5⟩:=gM hf
  show((qbm_W0 n (0,aL m)).bind _)=_
  have h:=fI (B:=λs=>qbm_B0 n s.1 s.2.1 s.2.2.1 s.2.2.2.1 s.2.2.2.2.1 s.2.2.2.2.2) (xs:=m.funcs) (mk:=λi (a:Unit)=>((i:Int),aL m)) (I:=λi a=>(m.funcs.take i).any (Ad m)=false)
   (Q:=λy=>(m.funcs.any (Ad m)=true/\∃z,y=Sum.inl (1,z))\/(m.funcs.any (Ad m)=false/\y=Sum.inr (aL m))) (λi a x K hI=>?_) (λa hI=>?_) m.funcs.length 0 n () (by omega) rfl (by omega)
  ·obtain⟨y,h1,h2⟩:=h;rw[show qbm_W0 n (0,aL m)=some y from h1,ya];rcases h2 with ⟨V,z,rfl⟩|⟨V,rfl⟩
   ·rw[V];rfl
   ·rw[V]
    show((qbm_W6 n (0,aL m)).bind _)=_
    have Y:=b8 (B:=λs=>qbm_B6 n s.1 s.2.1 s.2.2.1 s.2.2.2.1 s.2.2.2.2.1 s.2.2.2.2.2) (xs:=m.imps) (mk:=λi=>((i:Int),aL m)) (p:=HY) (found:=λi x=>Sum.inl (1,aL m)) (e:=Sum.inr (aL m))
     (λi x K=>?_) ?_ m.imps.length 0 n (by omega) (by omega)
    ·rw[yd2]at Y;rcases Y with ⟨O,k,x,_,_,N⟩|⟨O,N⟩
     ·rw[show qbm_W6 n (0,aL m)=_ from N,O];rfl
     ·rw[show qbm_W6 n (0,aL m)=_ from N,O];rfl
    ·have Z:=aU K;show qbm_B6 n (i:Int) m.recs m.funcs m.imps m.ints m.texts=_;unfold qbm_B6;rw[aB,decide_eq_true (by omega),yh,aE,K,ya,show qbq n x.2.1 x.2.2=some (mT (x.2.1,x.2.2))from HF n (x.2.1,x.2.2),ya]
     show((qbm_W8 n (((i:Int),(mT (x.2.1,x.2.2),0)),aL m)).bind _)=_
     rw[L7 n m i x K _ (k5 x (yj K)) (by omega),ya];simp only[];rw[aT (by omega)];have:(!(mT (x.2.1,x.2.2)&&x.1.all mT))=HY x:=by
      unfold HY;rw[Bool.not_and,<-A9 mT,Bool.not_not]
     rw[this];cases HY x<;>rfl
    ·show qbm_B6 n (m.imps.length:Int) m.recs m.funcs m.imps m.ints m.texts=_;unfold qbm_B6;rw[aB,decide_eq_false (by omega),yg]
  ·have Z:=aU K;have hm:=yj K;obtain⟨O,N,q3,_⟩:=k4 x hm;obtain⟨y,hy,M⟩:=LU n m x (i:Int) O N (by omega);obtain⟨z,hz,J⟩:=Ik n m x (i:Int) q3 (by omega);have H: ∀s,qbm_B0 n (i:Int) m.recs m.funcs m.imps m.ints m.texts=s->(λs=>qbm_B0 n s.1 s.2.1 s.2.2.1 s.2.2.2.1 s.2.2.2.2.1 s.2.2.2.2.2) ((i:Int),aL m)=s:=λs h=>h;unfold qbm_B0 at H;rw[aB,decide_eq_true (by omega),yh,aE,K,ya,show qbm_W2 n (((i:Int),0),((m.recs,(m.funcs,(m.imps,(m.ints,m.texts)))),(x.1,(x.2.1,(x.2.2.1,(x.2.2.2.1,x.2.2.2.2))))))=_ from hy,ya]at H;rcases M with ⟨U,rfl⟩|⟨U,rfl⟩
   ·refine .inr ⟨_,H _ rfl,.inl ⟨List.any_eq_true.2 ⟨x,hm,?_⟩,_,rfl⟩⟩;unfold Ad;rw[U];rfl
   ·simp only[]at H;rw[show qbm_W4 n (((i:Int),0),((m.recs,(m.funcs,(m.imps,(m.ints,m.texts)))),(x.1,(x.2.1,(x.2.2.1,(x.2.2.2.1,x.2.2.2.2))))))=_ from hz,ya]at H;rcases J with ⟨W,rfl⟩|⟨W,rfl⟩
    ·refine .inr ⟨_,H _ rfl,.inl ⟨List.any_eq_true.2 ⟨x,hm,?_⟩,_,rfl⟩⟩;unfold Ad;rw[U,W];rfl
    ·simp only[]at H;rw[aT (by omega)]at H;refine .inl ⟨(),H _ rfl,?_⟩;rw[ye3,K,List.any_append,hI];have:Ad m x=false:=by unfold Ad;rw[U,W];rfl
     simpa using this
  ·rw[yu2]at hI;refine⟨_,?_,.inr ⟨hI,rfl⟩⟩;show qbm_B0 n (m.funcs.length:Int) m.recs m.funcs m.imps m.ints m.texts=_;unfold qbm_B0;rw[aB,decide_eq_false (by omega),yg]
noncomputable def fR(m:aX):Bool:=bQ m==0&&match m.funcs with
 | []=>false
 |f::_=>decide (f.1.length=0)&&f.2.1==1
theorem LM{m:aX}(h:bQ m=0): ∃f r,m.funcs=f::r:=by
 unfold bQ at h;cases hf:c8 m with
 |false=>rw[hf]at h;cases h
 |true=>
  have:=(gM hf).2.2.1;cases hm:m.funcs with
  |nil=>rw[hm]at this;simp at this
  |cons f r=>exact⟨f,r,rfl⟩
theorem KR(m:aX)(x:Option Int)(K:x=some (bQ m)):
  (x.bind λr=>bif r==0 then(aF m.funcs 0).bind λJ=>bif aC J.1==0 then(aF m.funcs 0).bind λM=>some (M.2.1==1)else some false else some false)=some (fR m):=by
 rw[K,ya];unfold fR;cases hc:bQ m==0 with
 |false=>rfl
 |true=>
  obtain⟨f,r,hm⟩:=LM (eq_of_beq hc);rw[hm]
  show(bif aC f.1==0 then some (f.2.1==1)else some false)=some (true&&(decide (f.1.length=0)&&f.2.1==1))
  rw[aB];by_cases H:f.1.length=0
  ·rw[show((f.1.length:Int)==0)=true by rw[H];rfl,decide_eq_true H];simp
  ·rw[show((f.1.length:Int)==0)=false by rw[beq_eq_false_iff_ne];omega,decide_eq_false H];simp
theorem VH(n:Nat)(m:aX)(H:Hi m)(hn:200≤n):qci n m.recs m.funcs m.imps m.ints m.texts=some (fR m):=KR m _ (OV n m H hn)
theorem nE(n:Nat)(m:aX)(H:Hi m)(hL:wJ m)(hn:6000≤n):qcb n m.recs m.funcs m.imps m.ints m.texts=some (fR m):=KR m _ (zT n m H hL hn)
end Sx
end
section
namespace Sx
open Go Go.Ab
theorem nT{α:Type}{s:List α}(h:1≤s.length): ∃r x,s=r++ [x]:=by
 refine⟨s.dropLast,s.getLast (by intro e;rw[e]at h;simp at h),?_⟩;rw[List.dropLast_concat_getLast]
theorem Dq{α:Type}{s:List α}(h:2≤s.length): ∃r x y,s=r++ [x,y]:=by
 obtain⟨r,y,rfl⟩:=nT (s:=s) (by omega);obtain⟨q,x,rfl⟩:=nT (s:=r) (by simp at h;omega);exact⟨q,x,y,by simp⟩
theorem cK(r l:List (Int×Int))(k j:Nat)(hl:r.length+l.length≤1000000)(hj:k=l.length-j)(h1:1≤k)(hk:k≤l.length):aF (r++l) (bY .i64 (aC (r++l)) (k:Int))=l[l.length-k]?:=by
 have h:bY .i64 (aC (r++l)) (k:Int)=((r.length+(l.length-k):Nat):Int):=by
  rw[aB,yi,cW (by omega) (by omega)];omega
 rw[h,aE,yy (by omega)];congr 1;omega
theorem Tn(n:Nat)(m:aX)(f:gH)(x y:Int)(s:List cQ)(hs:s.length≤1000):
  qdc n m.recs m.funcs m.imps m.ints m.texts f.1 f.2.1 f.2.2.1 f.2.2.2.1 f.2.2.2.2 6 x y s=(qbt n m.recs m.funcs m.imps m.ints m.texts f.1 f.2.1 f.2.2.1 f.2.2.2.1 f.2.2.2.2 6 x y s).map λr=>((r.1,r.2.1),r.2.2):=by
 simp only[qdc,qcg,qbt,qbs,Int.reduceBEq,yg,yh,ya];by_cases h:1≤s.length
 ·obtain⟨r,t,rfl⟩:=nT h;rw[yi,yn1]at hs;have J:=cK r [t] 1 0 (by simp;omega) rfl (by omega) (by simp);have J:aF (r++ [t]) (bY .i64 (aC (r++ [t])) 1)=some t:=J;have H:bY .i64 (aC (r++ [t])) 1=((r.length:Nat):Int):=by
   rw[aB,yi,cW (by simp<;>omega) (by simp<;>omega)];simp
  rw[J,H,aB,yi,yn1,decide_eq_true (by omega),decide_eq_false (by omega),decide_eq_true (by omega),decide_eq_true (by omega)];simp only[yh,yg,ya,yj1,yl,yz];rw[yp2 (by simp),yq3]
 ·rw[aB,decide_eq_false (by omega),decide_eq_true (by omega)];rfl
theorem SZ(n:Nat)(m:aX)(f:gH)(x y:Int)(s:List cQ)(hs:s.length≤1000):
  qdc n m.recs m.funcs m.imps m.ints m.texts f.1 f.2.1 f.2.2.1 f.2.2.2.1 f.2.2.2.2 7 x y s=(qbt n m.recs m.funcs m.imps m.ints m.texts f.1 f.2.1 f.2.2.1 f.2.2.2.1 f.2.2.2.2 7 x y s).map λr=>((r.1,r.2.1),r.2.2):=by
 simp only[qdc,qcg,qbt,qbs,Int.reduceBEq,yg,yh,ya];by_cases h:2≤s.length
 ·obtain⟨r,t,u,rfl⟩:=Dq h;rw[yi]at hs;simp only[yw,yz2]at hs;have J:aF (r++ [t,u]) (bY .i64 (aC (r++ [t,u])) 1)=some u:=cK r [t,u] 1 1 (by simp;omega) rfl (by omega) (by simp);have K:aF (r++ [t,u]) (bY .i64 (aC (r++ [t,u])) 2)=some t:=cK r [t,u] 2 0 (by simp;omega) rfl (by omega) (by simp);have H:bY .i64 (aC (r++ [t,u])) 2=((r.length:Nat):Int):=by
   rw[aB,yi,cW (by simp<;>omega) (by simp<;>omega)];simp
  rw[J,K,H,aB,yi];simp only[yw,yz2];rw[decide_eq_true (by omega),decide_eq_false (by omega),decide_eq_true (by omega),decide_eq_true (by omega)];simp only[yh,yg,ya,yj1,yl,yz];rw[yp2 (by simp),yq3]
 ·rw[aB,decide_eq_false (by omega),decide_eq_true (by omega)];rfl
theorem PP(n:Nat)(m:aX)(f:gH)(x y:Int)(s:List cQ)(hs:s.length≤1000):
  qdc n m.recs m.funcs m.imps m.ints m.texts f.1 f.2.1 f.2.2.1 f.2.2.2.1 f.2.2.2.2 41 x y s=(qbt n m.recs m.funcs m.imps m.ints m.texts f.1 f.2.1 f.2.2.1 f.2.2.2.1 f.2.2.2.2 41 x y s).map λr=>((r.1,r.2.1),r.2.2):=by
 simp only[qdc,qcg,qbt,qbs,Int.reduceBEq,yg,yh,ya];by_cases h:1≤s.length
 ·obtain⟨r,t,rfl⟩:=nT h;rw[yi,yn1]at hs;have M:aF (r++ [t]) (bY .i64 (aC (r++ [t])) 1)=some t:=cK r [t] 1 0 (by simp;omega) rfl (by omega) (by simp);have H:bY .i64 (aC (r++ [t])) 1=((r.length:Nat):Int):=by
   rw[aB,yi,cW (by simp<;>omega) (by simp<;>omega)];simp
  rw[M,H,aB,yi,yn1,decide_eq_true (by omega),decide_eq_false (by omega),decide_eq_true (by omega),decide_eq_true (by omega)];simp only[yh,yg,ya,yj1,yl,yz];rw[yp2 (by simp),yq3];obtain⟨K,t2⟩:=t;by_cases J:K=5
  ·subst J;rfl
  ·rw[show(K==5)=false from beq_eq_false_iff_ne.2 J,show(K !=5)=true from bne_iff_ne.2 J];rfl
 ·rw[aB,decide_eq_false (by omega),decide_eq_true (by omega)];rfl
theorem QQ(n:Nat)(m:aX)(f:gH)(i:BL)(s:List cQ)(H:kP i=false)(hl:f.1.length+f.2.2.2.1.length≤1000)(hs:s.length≤1000):
  qdc n m.recs m.funcs m.imps m.ints m.texts f.1 f.2.1 f.2.2.1 f.2.2.2.1 f.2.2.2.2 i.1 i.2.1 i.2.2 s=(qbt n m.recs m.funcs m.imps m.ints m.texts f.1 f.2.1 f.2.2.1 f.2.2.2.1 f.2.2.2.2 i.1 i.2.1 i.2.2 s).map λr=>((r.1,r.2.1),r.2.2):=by
 unfold kP at H;have H:=of_decide_eq_false H;have K:=vD (op:=i.1) (by omega);obtain⟨op,x,y⟩:=i;have J:op=0\/op=1\/op=2\/op=3\/op=4\/op=5\/op=6\/op=7\/op=8\/op=9\/op=10\/op=11\/op=12\/op=13\/op=14\/op=15\/op=16\/op=17\/op=18\/op=19\/op=20\/op=21\/op=22\/op=23\/op=24\/op=25\/op=26\/op=27\/op=28\/op=29\/op=30\/op=31\/op=32\/op=33\/op=34\/op=35\/op=36\/op=37\/op=38\/op=39\/op=40\/op=41:=by simp only at K;omega
 rcases J with rfl|rfl|rfl|rfl|rfl|rfl|rfl|rfl|rfl|rfl|rfl|rfl|rfl|rfl|rfl|rfl|rfl|rfl|rfl|rfl|rfl|rfl|rfl|rfl|rfl|rfl|rfl|rfl|rfl|rfl|rfl|rfl|rfl|rfl|rfl|rfl|rfl|rfl|rfl|rfl|rfl|rfl
 ·rfl
 ·rfl
 ·rfl
 ·simp only[qdc,qca,qbw,qbt,qbs,Int.reduceBEq,yg,yh,ya,ge_iff_le,Int.reduceLE,decide_false,qbx_eq n f.1 f.2.1 f.2.2.1 f.2.2.2.1 f.2.2.2.2 x (by omega),lV n f.1 f.2.1 f.2.2.1 f.2.2.2.1 f.2.2.2.2 x (by omega),yl,yt2]
 ·simp only[qdc,qca,qbw,qbt,qbs,Int.reduceBEq,yg,yh,ya,ge_iff_le,Int.reduceLE,decide_false,qbx_eq n f.1 f.2.1 f.2.2.1 f.2.2.2.1 f.2.2.2.2 x (by omega),lV n f.1 f.2.1 f.2.2.1 f.2.2.2.1 f.2.2.2.2 x (by omega),yl,yt2]
 ·rfl
 ·exact Tn n m f x y s hs
 ·exact SZ n m f x y s hs
 ·rfl
 ·rfl
 ·rfl
 ·rfl
 ·rfl
 ·rfl
 ·rfl
 ·rfl
 ·rfl
 ·rfl
 ·rfl
 ·rfl
 ·rfl
 ·rfl
 ·rfl
 ·rfl
 ·rfl
 ·simp only[qdc,qca,qbw,qbt,qbs,Int.reduceBEq,yg,yh,ya,ge_iff_le,Int.reduceLE,decide_false,decide_true];cases aF m.funcs x<;>rfl
 ·rfl
 ·simp only[qdc,qca,qbw,qbt,qbs,Int.reduceBEq,yg,yh,ya,ge_iff_le,Int.reduceLE,decide_false,decide_true];cases aF m.imps x<;>rfl
 ·simp only[qdc,qca,qbw,qbt,qbs,Int.reduceBEq,yg,yh,ya,ge_iff_le,Int.reduceLE,decide_false,decide_true];cases aF m.recs x<;>rfl
 ·simp only[qdc,qca,qbw,qbt,qbs,Int.reduceBEq,yg,yh,ya,ge_iff_le,Int.reduceLE,decide_false,decide_true];cases aF m.recs x with
  |none=>rfl
  |some l=>simp only[ya];cases aF l y<;>rfl
 ·simp only[qdc,qca,qbw,qbt,qbs,Int.reduceBEq,yg,yh,ya,ge_iff_le,Int.reduceLE,decide_false,decide_true];cases aF m.recs x with
  |none=>rfl
  |some l=>simp only[ya];cases aF l y<;>rfl
 ·rfl
 ·rfl
 ·rfl
 ·rfl
 ·rfl
 ·rfl
 ·rfl
 ·rfl
 ·rfl
 ·rfl
 ·exact PP n m f x y s hs
end Sx
end
section
namespace Sx
open Go Go.Ab
theorem U9(n:Nat)(s:List cQ):qbc n s=some s:=by
 unfold qbc;rw[aB,decide_eq_true (by omega),decide_eq_true (by omega),decide_eq_true (by omega),yz,yu2];rfl
theorem Vd(n k:Nat)(hk:k≤1000):qch n (k:Int)=if k=0 then some (Sum.inr ())else some (Sum.inl ((0,0),List.replicate k (0,0))):=by
 unfold qch;rw[decide_eq_false (by omega),yg,cW (by omega) (by omega)];by_cases h:k=0
 ·subst h;rfl
 ·have e:(k:Int)-0=(k:Int):=by omega
  rw[if_neg h,e,decide_eq_true (by omega),yh,yz,decide_eq_true (by omega),show Nat.ble k 4294967296=true from by rw[Nat.ble_eq];omega];simp only[yj1,yh];rw[decide_eq_true (by omega)];rfl
theorem Np(n:Nat)(a b:List cQ)(ha:a.length≤300)(hb:b.length≤300)(hn:10≤n):qbl_W0 n ([a,b],(0,([a,b],(aC [a,b],0))))=some ([a,b],((a.length+b.length:Nat):Int)):=by
 obtain⟨m,rfl⟩: ∃m,n=m+3:=⟨n-3,by omega⟩
 have J:qbl_B0 (m+3) [a,b] 0 [a,b] 2 0=some (Sum.inl ([a,b],((a.length:Int),([a,b],((2:Int),(1:Int)))))):=by
  unfold qbl_B0;rw[show(decide ((0:Int)<2))=true from rfl,yh,show aF [a,b] 0=some a from rfl,ya,aB,aW (by omega) (by omega),decide_eq_false (by omega),yg,show aK .i64 0 1=1 from rfl];simp
 have H:qbl_B0 (m+3) [a,b] (a.length:Int) [a,b] 2 1=some (Sum.inl ([a,b],(((a.length+b.length:Nat):Int),([a,b],((2:Int),(2:Int)))))):=by
  unfold qbl_B0;rw[show(decide ((1:Int)<2))=true from rfl,yh,show aF [a,b] 1=some b from rfl,ya,aB,aW (by omega) (by omega),decide_eq_false (by omega),yg,show aK .i64 1 1=2 from rfl];simp
 exact(cB (B:=λs=>qbl_B0 (m+3) s.1 s.2.1 s.2.2.1 s.2.2.2.1 s.2.2.2.2) (s:=([a,b],((0:Int),([a,b],((2:Int),(0:Int)))))) J).trans ((cB (B:=λs=>qbl_B0 (m+3) s.1 s.2.1 s.2.2.1 s.2.2.2.1 s.2.2.2.2) (s:=([a,b],((a.length:Int),([a,b],((2:Int),(1:Int)))))) H).trans (cA rfl))
theorem Pj(n:Nat)(a b m0:List cQ)(hb:b.length≤300)(hm:m0.length≤1000):qbl_B2x1q1 n [a,b] 2 1 m0=some (Sum.inl (Sum.inr (Sum.inl (([a,b],((2:Int),(2:Int))),m0++b)))):=by
 unfold qbl_B2x1q1;rw[show(decide ((1:Int)<2))=true from rfl,yh,show aF [a,b] 1=some b from rfl,ya,bB (by rw[yi];omega),yh];rfl
theorem FY(n k:Nat)(a b m0:List cQ)(H:b.length≤300)(hm:m0.length≤1000):aM (qbl_M2x1 n) (k+2) (Sum.inr (Sum.inl (([a,b],((2:Int),(1:Int))),m0)))=some (Sum.inr (Sum.inl (m0++b))):=
 (cB (Pj n a b m0 H hm)).trans (cA rfl)
theorem Sr(n:Nat)(a b:List cQ)(K:a.length≤300)(H:b.length≤300)(hn:10≤n):qbl n [a,b]=some (Sum.inr (a++b)):=by
 unfold qbl;rw[Np n a b K H hn,ya];simp only;rw[Vd n _ (by omega),show aC [a,b]=2 from rfl];obtain⟨m,rfl⟩: ∃m,n=m+3:=⟨n-3,by omega⟩
 by_cases h:a.length+b.length=0
 ·rw[if_pos h,ya];have J:qbl_W2x1 (m+3) (Sum.inr (Sum.inr ([a,b],((2:Int),(0:Int)))))=some (Sum.inr (Sum.inl (a++b))):=by
   refine(cB (B:=qbl_M2x1 (m+3)) (s':=Sum.inr (Sum.inl (([a,b],((2:Int),(1:Int))),a))) ?_).trans (FY (m+3) m a b a H (by omega));show qbl_B2x1q2 (m+3) [a,b] 2 0=_;unfold qbl_B2x1q2;rw[show(decide ((0:Int)<2))=true from rfl,yh,show aF [a,b] 0=some a from rfl,ya,bB (by omega),yh];rfl
  show((qbl_W2x1 (m+3) (Sum.inr (Sum.inr ([a,b],((2:Int),(0:Int)))))).bind _)=_
  rw[J];rfl
 ·rw[if_neg h,ya];have J:qbl_W2x1 (m+3) (Sum.inl (((0,0),([a,b],((2:Int),(0:Int)))),List.replicate (a.length+b.length) (0,0)))=some (Sum.inr (Sum.inl (a++b))):=by
   refine(cB (B:=qbl_M2x1 (m+3)) (s':=Sum.inr (Sum.inl (([a,b],((2:Int),(1:Int))),a))) ?_).trans (FY (m+3) m a b a H (by omega));show qbl_B2x1q0 (m+3) (0,0) [a,b] 2 0 (List.replicate (a.length+b.length) (0,0))=_;unfold qbl_B2x1q0;rw[show(decide ((0:Int)<2))=true from rfl,yh,show aF [a,b] 0=some a from rfl,ya];simp only[yi4,yw3,Nat.beq,yh];rw[show Nat.ble (0+0) (List.length (List.replicate (a.length+b.length) ((0:Int),(0:Int))))=true from(by rw[Nat.ble_eq];omega),yh,bB (by omega),yh];rfl
  show((qbl_W2x1 (m+3) (Sum.inl (((0,0),([a,b],((2:Int),(0:Int)))),List.replicate (a.length+b.length) (0,0)))).bind _)=_
  rw[J];rfl
abbrev FR:=List cQ×List Int×Int
def mC(s inn:List cQ):Bool:=(inn.zip (s.drop (s.length-inn.length))).all λq=>fS q.2 q.1
def Gk(i:BL)(pc:Int):List Int:=if i.1=26 then []else if i.1=23 then [i.2.1]else if i.1=24 then [pc+1,i.2.1]else [pc+1]
def iS(f:gH)(i:BL)(pc:Int)(s:List cQ)(r:List cQ×List cQ×Bool):FR:=
 if r.2.2=false\/s.length<r.1.length\/s.length-r.1.length+r.2.1.length>8\/mC s r.1=false then([],[],4)else
 if i.1≠26/\i.1≠23/\pc+1≥(f.2.2.2.2.length:Int)then([],[],1)else(s.take (s.length-r.1.length)++r.2.1,Gk i pc,0)
theorem Ky{S X:Type}(inn:List cQ)(s:List cQ)(hl:inn.length≤s.length){B:S->Option (S⊕X)}{mk:Nat->S}{found:Nat->cQ->cQ->X}{e:X}
  (hs: ∀i x y,inn[i]?=some x->s[s.length-inn.length+i]?=some y->B (mk i)=(if fS y x=true then some (.inl (mk (i+1)))else some (.inr (found i x y))))
  (K:B (mk inn.length)=some (.inr e)) (n:Nat) (hn:inn.length<n):
  (mC s inn=true/\aM B n (mk 0)=some e)\/(mC s inn=false/\∃i x y,aM B n (mk 0)=some (found i x y)):=
 loop_two (p:=λx y=>fS y x) (by rw[yd4];omega) (λi x y J H=>hs i x y J (by rw[yg1]at H;exact H)) K n hn
theorem qcq_eq(n:Nat)(m:aX)(Y H:Nat)(f:gH)(i:BL)(s:List cQ)(r:List cQ×List cQ×Bool)(hf:m.funcs[Y]?=some f)(W:f.2.2.2.2[H]?=some i)(hb:kP i=false)(hl:f.1.length+f.2.2.2.1.length≤200)
  (hr:qbt n m.recs m.funcs m.imps m.ints m.texts f.1 f.2.1 f.2.2.1 f.2.2.2.1 f.2.2.2.2 i.1 i.2.1 i.2.2 s=some r) (hs:s.length≤200) (h1:r.1.length≤200) (h2:r.2.1.length≤200) (hp:H≤200) (hc:f.2.2.2.2.length≤200)
  (hj:i.1=23->i.2.1<(f.2.2.2.2.length:Int)) (hn:1000≤n):qcq n m.recs m.funcs m.imps m.ints m.texts (Y:Int) (H:Int) s=some (iS f i (H:Int) s r):=by
 unfold qcq iS;rw[aE,hf,ya,aE,W,ya,QQ n m f i s hb (by omega) (by omega),hr,yl,ya];obtain⟨inn,out,ok⟩:=r;simp only at h1 h2⊢
 cases ok with
 |false=>rw[if_pos (.inl rfl)];rfl
 |true=>
  rw[aB,aB,aB];simp only[yf1,yg,Bool.true_eq_false,false_or];by_cases Z:s.length<inn.length
  ·rw[if_pos (.inl Z),cW (by omega) (by omega),decide_eq_true (by omega)];rfl
  ·have U:bY .i64 (s.length:Int) (inn.length:Int)=((s.length-inn.length:Nat):Int):=by rw[cW (by omega) (by omega)];omega
   rw[U,decide_eq_false (by omega),yg,aW (by omega) (by omega)];by_cases h4:s.length-inn.length+out.length>8
   ·rw[if_pos (.inr (.inl h4)),decide_eq_true (by omega)];rfl
   ·rw[decide_eq_false (by omega),yg];have hL:=Ky inn s (by omega) (B:=λq=>qcq_B0 n q.1.1 q.1.2.1 q.1.2.2.1 q.1.2.2.2.1 q.1.2.2.2.2.1 q.1.2.2.2.2.2 q.2.1.1 q.2.1.2.1 q.2.1.2.2.1 q.2.1.2.2.2.1 q.2.1.2.2.2.2 q.2.2.1 q.2.2.2)
     (mk:=λ(j:Nat)=>(((H:Int),(s,(((s.length-inn.length:Nat):Int),(inn,((inn.length:Int),(j:Int)))))),((f.1,(f.2.1,(f.2.2.1,(f.2.2.2.1,f.2.2.2.2)))),(inn,out))))
     (found:=λj x y=>Sum.inl ((([]:List cQ),(([]:List Int),(4:Int))),((f.1,(f.2.1,(f.2.2.1,(f.2.2.2.1,f.2.2.2.2)))),((inn,out),(x.1,x.2)))))
     (e:=Sum.inr (((H:Int),(s,((s.length-inn.length:Nat):Int))),((f.1,(f.2.1,(f.2.2.1,(f.2.2.2.1,f.2.2.2.2)))),(inn,out))))
     (fun j x y V hy => by
      have hjl:=r9 V;show qcq_B0 n (H:Int) s ((s.length-inn.length:Nat):Int) inn (inn.length:Int) (j:Int) f.1 f.2.1 f.2.2.1 f.2.2.2.1 f.2.2.2.2 inn out=_;unfold qcq_B0;have ha:aK .i64 ((s.length-inn.length:Nat):Int) (j:Int)=((s.length-inn.length+j:Nat):Int):=by rw[aW (by omega) (by omega)];omega
      rw[decide_eq_true (by omega),yh,aE,V,ya,ha,aE,hy,ya,qcy_eq n y x,ya,aT (by omega)]
      cases fS y x<;>rfl)
     (by
      show qcq_B0 n (H:Int) s ((s.length-inn.length:Nat):Int) inn (inn.length:Int) (inn.length:Int) f.1 f.2.1 f.2.2.1 f.2.2.2.1 f.2.2.2.2 inn out=_;unfold qcq_B0
      rw[decide_eq_false (by omega),yg]) n (by omega)
    rcases hL with ⟨ht,hW⟩|⟨ht,j,x,y,hW⟩
    ·rw[show qcq_W0 n (((H:Int),(s,(((s.length-inn.length:Nat):Int),(inn,((inn.length:Int),0))))),((f.1,(f.2.1,(f.2.2.1,(f.2.2.2.1,f.2.2.2.2)))),(inn,out)))=_ from hW,ya];simp only;rw[if_neg (by rw[ht];simp;omega),aE,W,ya];have O:(decide ((0:Int)≤((s.length-inn.length:Nat):Int))&&decide (((s.length-inn.length:Nat):Int)≤((s.length:Nat):Int)))=true:=by
      rw[decide_eq_true (by omega),decide_eq_true (by omega)];rfl
     rw[O,yz,Sr n _ out (by rw[yj2];omega) (by omega) (by omega)];simp only[ya,yh];rw[U9 n];simp only[ya];unfold qcu Gk;by_cases K:i.1=26
     ·rw[K];rfl
     ·rw[show(i.1==26)=false from beq_eq_false_iff_ne.2 K,yg,if_neg K];by_cases J:i.1=23
      ·have hj':=hj J;rw[show(i.1==23)=true from beq_iff_eq.2 J,yh,if_pos J,ya];rw[show(decide (aC [i.2.1]>0))=true from rfl,yh,show aF [i.2.1] 0=some i.2.1 from rfl,ya,aB,decide_eq_false (by omega),yg,if_neg (by omega)]
      ·rw[show(i.1==23)=false from beq_eq_false_iff_ne.2 J,yg,if_neg J,aW (by omega) (by omega)];by_cases M:i.1=24
       ·rw[show(i.1==24)=true from beq_iff_eq.2 M,yh,if_pos M,ya];rw[show(decide (aC [(H:Int)+1,i.2.1]>0))=true from rfl,yh,show aF [(H:Int)+1,i.2.1] 0=some ((H:Int)+1)from rfl,ya,aB];by_cases N:(H:Int)+1≥(f.2.2.2.2.length:Int)
        ·rw[decide_eq_true N,yh,if_pos ⟨K,J,N⟩]
        ·rw[decide_eq_false N,yg,if_neg (by omega)]
       ·rw[show(i.1==24)=false from beq_eq_false_iff_ne.2 M,yg,if_neg M,ya];rw[show(decide (aC [(H:Int)+1]>0))=true from rfl,yh,show aF [(H:Int)+1] 0=some ((H:Int)+1)from rfl,ya,aB];by_cases N:(H:Int)+1≥(f.2.2.2.2.length:Int)
        ·rw[decide_eq_true N,yh,if_pos ⟨K,J,N⟩]
        ·rw[decide_eq_false N,yg,if_neg (by omega)]
    ·rw[show qcq_W0 n (((H:Int),(s,(((s.length-inn.length:Nat):Int),(inn,((inn.length:Int),0))))),((f.1,(f.2.1,(f.2.2.1,(f.2.2.2.1,f.2.2.2.2)))),(inn,out)))=_ from hW,ya,if_pos (.inr (.inr ht))]
theorem Qq(n:Nat)(m:aX)(W H:Nat)(f:gH)(i:BL)(s:List cQ)(r:List cQ×List cQ×Bool)(hf:m.funcs[W]?=some f)(Z:f.2.2.2.2[H]?=some i)
  (hr:qbt n m.recs m.funcs m.imps m.ints m.texts f.1 f.2.1 f.2.2.1 f.2.2.2.1 f.2.2.2.2 i.1 i.2.1 i.2.2 s=some r) (hs:s.length≤200) (h1:r.1.length≤200) (h2:r.2.1.length≤200) (hp:H≤200) (hc:f.2.2.2.2.length≤200)
  (hn:1000≤n):qcd n m.recs m.funcs m.imps m.ints m.texts (W:Int) (H:Int) s=some (iS f i (H:Int) s r):=by
 unfold qcd iS;rw[aE,hf,ya,aE,Z,ya,hr,ya];obtain⟨inn,out,ok⟩:=r;simp only at h1 h2⊢
 cases ok with
 |false=>rw[if_pos (.inl rfl)];rfl
 |true=>
  rw[aB,aB,aB];simp only[yf1,yg,Bool.true_eq_false,false_or];by_cases Y:s.length<inn.length
  ·rw[if_pos (.inl Y),cW (by omega) (by omega),decide_eq_true (by omega)];rfl
  ·have O:bY .i64 (s.length:Int) (inn.length:Int)=((s.length-inn.length:Nat):Int):=by rw[cW (by omega) (by omega)];omega
   rw[O,decide_eq_false (by omega),yg,aW (by omega) (by omega)];by_cases h4:s.length-inn.length+out.length>8
   ·rw[if_pos (.inr (.inl h4)),decide_eq_true (by omega)];rfl
   ·rw[decide_eq_false (by omega),yg];have hL:=Ky inn s (by omega) (B:=λq=>qcd_B0 n q.1.1 q.1.2.1 q.1.2.2.1 q.1.2.2.2.1 q.1.2.2.2.2.1 q.1.2.2.2.2.2 q.2.1.1 q.2.1.2.1 q.2.1.2.2.1 q.2.1.2.2.2.1 q.2.1.2.2.2.2 q.2.2.1 q.2.2.2.1 q.2.2.2.2)
     (mk:=λ(j:Nat)=>(((H:Int),(s,(inn,(out,(((s.length-inn.length:Nat):Int),(j:Int)))))),((f.1,(f.2.1,(f.2.2.1,(f.2.2.2.1,f.2.2.2.2)))),(i.1,(i.2.1,i.2.2)))))
     (found:=λj x y=>Sum.inl ((([]:List cQ),(([]:List Int),(4:Int))),((f.1,(f.2.1,(f.2.2.1,(f.2.2.2.1,f.2.2.2.2)))),(i.1,(i.2.1,i.2.2)))))
     (e:=Sum.inr (((H:Int),(s,(out,((s.length-inn.length:Nat):Int)))),((f.1,(f.2.1,(f.2.2.1,(f.2.2.2.1,f.2.2.2.2)))),(i.1,(i.2.1,i.2.2)))))
     (fun j x y V hy => by
      have hjl:=r9 V;show qcd_B0 n (H:Int) s inn out ((s.length-inn.length:Nat):Int) (j:Int) f.1 f.2.1 f.2.2.1 f.2.2.2.1 f.2.2.2.2 i.1 i.2.1 i.2.2=_;unfold qcd_B0;have ha:aK .i64 ((s.length-inn.length:Nat):Int) (j:Int)=((s.length-inn.length+j:Nat):Int):=by rw[aW (by omega) (by omega)];omega
      rw[aB,decide_eq_true (by omega),yh,ha,aE,hy,ya,aE,V,ya,A4 n y x,ya,aT (by omega)]
      cases fS y x<;>rfl)
     (by
      show qcd_B0 n (H:Int) s inn out ((s.length-inn.length:Nat):Int) (inn.length:Int) f.1 f.2.1 f.2.2.1 f.2.2.2.1 f.2.2.2.2 i.1 i.2.1 i.2.2=_;unfold qcd_B0
      rw[aB,decide_eq_false (by omega),yg]) n (by omega)
    rcases hL with ⟨ht,hW⟩|⟨ht,j,x,y,hW⟩
    ·rw[show qcd_W0 n (((H:Int),(s,(inn,(out,(((s.length-inn.length:Nat):Int),0))))),((f.1,(f.2.1,(f.2.2.1,(f.2.2.2.1,f.2.2.2.2)))),(i.1,(i.2.1,i.2.2))))=_ from hW,ya];simp only;rw[if_neg (by rw[ht];simp;omega)];have N:(decide ((0:Int)≤((s.length-inn.length:Nat):Int))&&decide (((s.length-inn.length:Nat):Int)≤((s.length:Nat):Int)))=true:=by
      rw[decide_eq_true (by omega),decide_eq_true (by omega)];rfl
     rw[N,yz,bB (by rw[yj2];omega),bB (by rw[yi,yj2];omega)];simp only[yh];unfold Gk;by_cases K:i.1=26
     ·rw[K];rfl
     ·rw[show(i.1==26)=false from beq_eq_false_iff_ne.2 K,yg,if_neg K];by_cases J:i.1=23
      ·rw[show(i.1==23)=true from beq_iff_eq.2 J,yh,if_pos J,if_neg (by omega)]
      ·rw[show(i.1==23)=false from beq_eq_false_iff_ne.2 J,yg,if_neg J,aW (by omega) (by omega),aB];by_cases U:(H:Int)+1≥(f.2.2.2.2.length:Int)
       ·rw[decide_eq_true U,yh,if_pos ⟨K,J,U⟩]
       ·rw[decide_eq_false U,yg,if_neg (by omega)];by_cases M:i.1=24
        ·rw[show(i.1==24)=true from beq_iff_eq.2 M,yh,if_pos M]
        ·rw[show(i.1==24)=false from beq_eq_false_iff_ne.2 M,yg,if_neg M]
    ·rw[show qcd_W0 n (((H:Int),(s,(inn,(out,(((s.length-inn.length:Nat):Int),0))))),((f.1,(f.2.1,(f.2.2.1,(f.2.2.2.1,f.2.2.2.2)))),(i.1,(i.2.1,i.2.2))))=_ from hW,ya,if_pos (.inr (.inr ht))]
end Sx
end
section
set_option maxRecDepth 100000
namespace Sx
open Go Go.Ab
end Sx
end
section
namespace Sx
open Go Go.Ab
theorem RH{m:aX}(h:c8 m=true):m.recs.length≤8/\∀l∈m.recs,l.length≤6:=by
 simp only[c8,yc,decide_eq_true_eq,ya1]at h;exact⟨h.1,λl H=>by have:=lD (h.2.1 l H);omega⟩
theorem eA{m:aX}(h:bQ m=0):c8 m=true/\∀f∈m.funcs,Ad m f=false:=by
 unfold bQ at h;cases hf:c8 m with
 |false=>rw[if_pos hf]at h;cases h
 |true=>
  rw[if_neg (by rw[hf];simp)]at h;refine⟨rfl,λf hm=>?_⟩;cases H:m.funcs.any (Ad m)with
  |true=>rw[if_pos H]at h;cases h
  |false=>simpa using List.any_eq_false.1 H f hm
theorem qX{m:aX}(h:bQ m=0){f:gH}(hf:f∈m.funcs){i:BL}(H:i∈f.2.2.2.2):mJ m f i=true:=by
 have:=(eA h).2 f hf;unfold Ad at this;rw[Bool.or_eq_false_iff]at this;simpa using List.any_eq_false.1 this.1 i H
theorem iE{α:Type}{l:List α}{x:Int}(h0:0≤x)(h:x<(l.length:Int)): ∃a,aF l x=some a/\a∈l:=by
 obtain⟨k,rfl⟩: ∃k:Nat,x=(k:Int):=⟨x.toNat,by omega⟩
 exact⟨l[k]'(by omega),by rw[aE,ye],yf2 _⟩
theorem KL(n:Nat)(m:aX)(f:gH)(i:BL)(s:List cQ)(hc:bQ m=0)(hf:f∈m.funcs)(Y:i∈f.2.2.2.2)(hs:s.length≤200):
  ∃r,qbt n m.recs m.funcs m.imps m.ints m.texts f.1 f.2.1 f.2.2.1 f.2.2.2.1 f.2.2.2.2 i.1 i.2.1 i.2.2 s=some r/\r.1.length≤200/\r.2.1.length≤200:=by
 obtain⟨hF,hB⟩:=eA hc;obtain⟨k1,k2,k3,U,k5⟩:=gM hF;obtain⟨q1,Z⟩:=RH hF;have hN:=qX hc hf Y;have K:=(U f hf).1 i Y;have hfl:=U f hf;have hr:=wV K;unfold kP at K;have K:=of_decide_eq_false K;have ha:=vD (op:=i.1) (by omega);obtain⟨op,x,y⟩:=i;simp only at hr;have hk:op=0\/op=1\/op=2\/op=3\/op=4\/op=5\/op=6\/op=7\/op=8\/op=9\/op=10\/op=11\/op=12\/op=13\/op=14\/op=15\/op=16\/op=17\/op=18\/op=19\/op=20\/op=21\/op=22\/op=23\/op=24\/op=25\/op=26\/op=27\/op=28\/op=29\/op=30\/op=31\/op=32\/op=33\/op=34\/op=35\/op=36\/op=37\/op=38\/op=39\/op=40\/op=41:=by simp only at ha;omega
 rcases hk with rfl|rfl|rfl|rfl|rfl|rfl|rfl|rfl|rfl|rfl|rfl|rfl|rfl|rfl|rfl|rfl|rfl|rfl|rfl|rfl|rfl|rfl|rfl|rfl|rfl|rfl|rfl|rfl|rfl|rfl|rfl|rfl|rfl|rfl|rfl|rfl|rfl|rfl|rfl|rfl|rfl|rfl
 ·exact⟨_,rfl,by simp,by simp⟩
 ·exact⟨_,rfl,by simp,by simp⟩
 ·exact⟨_,rfl,by simp,by simp⟩
 ·simp only[qbt,Int.reduceBEq,yg,yh,lV n f.1 f.2.1 f.2.2.1 f.2.2.2.1 f.2.2.2.2 x (by omega),ya];exact⟨_,rfl,by simp,by simp⟩
 ·simp only[qbt,Int.reduceBEq,yg,yh,lV n f.1 f.2.1 f.2.2.1 f.2.2.2.1 f.2.2.2.2 x (by omega),ya];exact⟨_,rfl,by simp,by simp⟩
 ·exact⟨_,rfl,by simp,by simp⟩
 ·simp only[qbt,Int.reduceBEq,yg,yh];by_cases h:1≤s.length
  ·obtain⟨r,t,rfl⟩:=nT h;rw[yi,yn1]at hs;have M:aF (r++ [t]) (bY .i64 (aC (r++ [t])) 1)=some t:=cK r [t] 1 0 (by simp;omega) rfl (by omega) (by simp);have J:bY .i64 (aC (r++ [t])) 1=((r.length:Nat):Int):=by
    rw[aB,yi,cW (by simp<;>omega) (by simp<;>omega)];simp
   rw[M,J,aB,yi,yn1,decide_eq_false (by omega),decide_eq_true (by omega),decide_eq_true (by omega)];simp only[yh,yg,ya,yj1,yz];rw[yp2 (by simp),yq3];exact⟨_,rfl,by simp,by simp⟩
  ·rw[aB,decide_eq_true (by omega)];exact⟨_,rfl,by simp,by simp⟩
 ·simp only[qbt,Int.reduceBEq,yg,yh];by_cases h:2≤s.length
  ·obtain⟨r,t,u,rfl⟩:=Dq h;rw[yi]at hs;simp only[yw,yz2]at hs;have V:aF (r++ [t,u]) (bY .i64 (aC (r++ [t,u])) 1)=some u:=cK r [t,u] 1 1 (by simp;omega) rfl (by omega) (by simp);have O:aF (r++ [t,u]) (bY .i64 (aC (r++ [t,u])) 2)=some t:=cK r [t,u] 2 0 (by simp;omega) rfl (by omega) (by simp);have J:bY .i64 (aC (r++ [t,u])) 2=((r.length:Nat):Int):=by
    rw[aB,yi,cW (by simp<;>omega) (by simp<;>omega)];simp
   rw[V,O,J,aB,yi];simp only[yw,yz2];rw[decide_eq_false (by omega),decide_eq_true (by omega),decide_eq_true (by omega)];simp only[yh,yg,ya,yj1,yz];rw[yp2 (by simp),yq3];exact⟨_,rfl,by simp,by simp⟩
  ·rw[aB,decide_eq_true (by omega)];exact⟨_,rfl,by simp,by simp⟩
 ·exact⟨_,rfl,by simp,by simp⟩
 ·exact⟨_,rfl,by simp,by simp⟩
 ·exact⟨_,rfl,by simp,by simp⟩
 ·exact⟨_,rfl,by simp,by simp⟩
 ·exact⟨_,rfl,by simp,by simp⟩
 ·exact⟨_,rfl,by simp,by simp⟩
 ·exact⟨_,rfl,by simp,by simp⟩
 ·exact⟨_,rfl,by simp,by simp⟩
 ·exact⟨_,rfl,by simp,by simp⟩
 ·exact⟨_,rfl,by simp,by simp⟩
 ·exact⟨_,rfl,by simp,by simp⟩
 ·exact⟨_,rfl,by simp,by simp⟩
 ·exact⟨_,rfl,by simp,by simp⟩
 ·exact⟨_,rfl,by simp,by simp⟩
 ·exact⟨_,rfl,by simp,by simp⟩
 ·exact⟨_,rfl,by simp,by simp⟩
 ·exact⟨_,rfl,by simp,by simp⟩
 ·have H:x<(m.funcs.length:Int):=of_decide_eq_true (show decide (x<aC m.funcs)=true from hN);obtain⟨a,e,hm⟩:=iE hr.1 H;simp only[qbt,Int.reduceBEq,yg,yh,e,ya];exact⟨_,rfl,by have:=(U a hm).2.2.2.2;simp only;omega,by simp⟩
 ·exact⟨_,rfl,by simp,by simp⟩
 ·have H:x<(m.imps.length:Int):=of_decide_eq_true (show decide (x<aC m.imps)=true from hN);obtain⟨a,e,hm⟩:=iE hr.1 H;simp only[qbt,Int.reduceBEq,yg,yh,e,ya];exact⟨_,rfl,by have:=k5 a hm;simp only;omega,by simp⟩
 ·have H:x<(m.recs.length:Int):=of_decide_eq_true (show decide (x<aC m.recs)=true from hN);obtain⟨a,e,hm⟩:=iE hr.1 H;simp only[qbt,Int.reduceBEq,yg,yh,e,ya];exact⟨_,rfl,by have:=Z a hm;simp only;omega,by simp⟩
 ·have hN:(bif decide (x<aC m.recs)then(aF m.recs x).bind λl=>some (decide (y<aC l))else some false).getD false=true:=hN;by_cases H:x<(m.recs.length:Int)
  ·rw[aB,decide_eq_true H,yh]at hN;obtain⟨a,e,hm⟩:=iE hr.1 H;rw[e]at hN;have W:y<(a.length:Int):=of_decide_eq_true hN;obtain⟨b,N,_⟩:=iE hr.2.2.1 W;simp only[qbt,Int.reduceBEq,yg,yh,e,N,ya];exact⟨_,rfl,by simp,by simp⟩
  ·rw[aB,decide_eq_false H]at hN;cases hN
 ·have hN:(bif decide (x<aC m.recs)then(aF m.recs x).bind λl=>some (decide (y<aC l))else some false).getD false=true:=hN;by_cases H:x<(m.recs.length:Int)
  ·rw[aB,decide_eq_true H,yh]at hN;obtain⟨a,e,hm⟩:=iE hr.1 H;rw[e]at hN;have W:y<(a.length:Int):=of_decide_eq_true hN;obtain⟨b,N,_⟩:=iE hr.2.2.1 W;simp only[qbt,Int.reduceBEq,yg,yh,e,N,ya];exact⟨_,rfl,by simp,by simp⟩
  ·rw[aB,decide_eq_false H]at hN;cases hN
 ·exact⟨_,rfl,by simp,by simp⟩
 ·exact⟨_,rfl,by simp,by simp⟩
 ·exact⟨_,rfl,by simp,by simp⟩
 ·exact⟨_,rfl,by simp,by simp⟩
 ·exact⟨_,rfl,by simp,by simp⟩
 ·exact⟨_,rfl,by simp,by simp⟩
 ·exact⟨_,rfl,by simp,by simp⟩
 ·exact⟨_,rfl,by simp,by simp⟩
 ·exact⟨_,rfl,by simp,by simp⟩
 ·exact⟨_,rfl,by simp,by simp⟩
 ·simp only[qbt,Int.reduceBEq,yg,yh];by_cases h:1≤s.length
  ·obtain⟨r,t,rfl⟩:=nT h;rw[yi,yn1]at hs;have M:aF (r++ [t]) (bY .i64 (aC (r++ [t])) 1)=some t:=cK r [t] 1 0 (by simp;omega) rfl (by omega) (by simp);have J:bY .i64 (aC (r++ [t])) 1=((r.length:Nat):Int):=by
    rw[aB,yi,cW (by simp<;>omega) (by simp<;>omega)];simp
   rw[M,J,aB,yi,yn1,decide_eq_false (by omega),decide_eq_true (by omega),decide_eq_true (by omega)];simp only[yh,yg,ya,yj1,yz];rw[yp2 (by simp),yq3];cases t.1 !=5<;>exact⟨_,rfl,by simp,by simp⟩
  ·rw[aB,decide_eq_true (by omega)];exact⟨_,rfl,by simp,by simp⟩
theorem RY(n:Nat)(m:aX)(M K:Nat)(f:gH)(i:BL)(s:List cQ)(hc:bQ m=0)(hf:m.funcs[M]?=some f)(N:f.2.2.2.2[K]?=some i)(hs:s.length≤200)(hn:1000≤n):
  ∃r,qbt n m.recs m.funcs m.imps m.ints m.texts f.1 f.2.1 f.2.2.1 f.2.2.2.1 f.2.2.2.2 i.1 i.2.1 i.2.2 s=some r/\r.1.length≤200/\r.2.1.length≤200/\
   qcq n m.recs m.funcs m.imps m.ints m.texts (M:Int) (K:Int) s=some (iS f i (K:Int) s r)/\qcd n m.recs m.funcs m.imps m.ints m.texts (M:Int) (K:Int) s=some (iS f i (K:Int) s r):=by
 have H:=yj hf;have J:=yj N;obtain⟨hF,hB⟩:=eA hc;obtain⟨k1,k2,k3,W,k5⟩:=gM hF;have V:=W f H;have Y:=r9 N;obtain⟨r,hr,O,U⟩:=KL n m f i s hc H J hs;refine⟨r,hr,O,U,qcq_eq n m M K f i s r hf N (V.1 i J) (by omega) hr hs O U (by omega) (by omega) (λh=>?_) hn,Qq n m M K f i s r hf N hr hs O U (by omega) (by omega) hn⟩;have hN:=qX hc H J;obtain⟨op,x,y⟩:=i;simp only at h;subst h;exact of_decide_eq_true (show decide (x<aC f.2.2.2.2)=true from hN)
end Sx
end
section
namespace Sx
open Go Go.Ab
def UB(x y:cQ):Bool:=(x.1==y.1)&&(x.2==y.2)
theorem Oe(x:cQ):UB x x=true:=by simp[UB]
theorem Bo(n:Nat)(a b:List cQ)(ha:a.length≤5000)(hn:6000≤n):qba n a b=some (R6 UB a b):=by
 unfold qba R6;rw[Bq];by_cases K:a.length=b.length
 ·rw[decide_eq_true K,yf1,yg,yq1];have h:=loop_two (B:=λs=>qba_B0 n s.1 s.2.1 s.2.2) (mk:=λ(i:Nat)=>(a,(b,(i:Int)))) (p:=UB) (found:=λi x y=>Sum.inl false) (e:=Sum.inr ()) K (λi x y M N=>?_) ?_ n (by omega)
  ·rcases h with ⟨J,H⟩|⟨J,i,x,y,H⟩
   ·rw[show qba_W0 n (a,(b,0))=_ from H,J];rfl
   ·rw[show qba_W0 n (a,(b,0))=_ from H,J];rfl
  ·have hi:=r9 M;show qba_B0 n a b (i:Int)=_;unfold qba_B0;rw[aB,decide_eq_true (by omega),yh,aE,M,ya,aE,N,ya,aT (by omega)]
   show(bif !UB x y then _ else _)=_
   cases UB x y<;>rfl
  ·show qba_B0 n a b (a.length:Int)=_;unfold qba_B0;rw[aB,decide_eq_false (by omega),yg]
 ·rw[decide_eq_false K];rfl
theorem Kc(n:Nat)(a:List cQ)(H:a.length≤5000)(hn:6000≤n):qba n a a=some true:=by
 rw[Bo n a a H hn,IY a λx _=>Oe x]
theorem Rx{f:gH}{i:BL}{pc:Int}{s:List cQ}{r:List cQ×List cQ×Bool}(hs:s.length≤200)(h2:r.2.1.length≤200):(iS f i pc s r).1.length≤400/\(iS f i pc s r).2.1.length≤2:=by
 unfold iS;split
 ·simp
 ·split
  ·simp
  ·refine⟨by simp only[yi,yj2];omega,?_⟩;unfold Gk;simp only;split
   ·simp
   ·split
    ·simp
    ·split<;>simp
end Sx
end
section
namespace Sx
open Go Go.Ab
theorem JS{X S:Type}{B:S->Option (S⊕X)}{mk:Nat->S}{p:Nat->Bool}{found:Nat->X}{e:X}(k:Nat)
  (hs: ∀i,i<k->B (mk i)=(if p i=true then some (.inl (mk (i+1)))else some (.inr (found i)))) (O:B (mk k)=some (.inr e)) (n:Nat) (hn:k<n):
  ((List.range k).all p=true/\aM B n (mk 0)=some e)\/((List.range k).all p=false/\∃i,i<k/\aM B n (mk 0)=some (found i)):=by
 have h:=b8 (xs:=List.range k) (B:=B) (mk:=mk) (p:=λi=>!p i) (found:=λi _=>found i) (e:=e) (λi x H=>?_) (by rw[yy2];exact O) k 0 n (by rw[yy2];omega) hn
 ·rw[yd2]at h;have N:(List.range k).all p=!(List.range k).any (λi=>!p i):=by rw[List.all_eq_not_any_not]
  rcases h with ⟨M,j,x,H,_,K⟩|⟨M,K⟩
  ·have:=r9 H;rw[yy2]at this;exact .inr ⟨by rw[N,M];rfl,j,this,K⟩
  ·exact .inl ⟨by rw[N,M];rfl,K⟩
 ·have J:=r9 H;rw[yy2]at J;rw[List.getElem?_range J]at H;obtain rfl:=yb H;rw[hs i J];cases p i<;>rfl
abbrev bT:=Bool×List cQ
noncomputable def dK(m:aX)(f:gH)(i:BL)(s:List cQ):List cQ×List cQ×Bool:=(qbt 10000 m.recs m.funcs m.imps m.ints m.texts f.1 f.2.1 f.2.2.1 f.2.2.2.1 f.2.2.2.2 i.1 i.2.1 i.2.2 s).getD ([],[],false)
noncomputable def bL(m:aX)(f:gH)(i:BL)(pc:Int)(s:List cQ):FR:=iS f i pc s (dK m f i s)
theorem jK(m:aX)(N H:Nat)(f:gH)(i:BL)(s:List cQ)(hc:bQ m=0)(hf:m.funcs[N]?=some f)(O:f.2.2.2.2[H]?=some i)(hs:s.length≤200):
  qcq 10000 m.recs m.funcs m.imps m.ints m.texts (N:Int) (H:Int) s=some (bL m f i (H:Int) s)/\qcd 10000 m.recs m.funcs m.imps m.ints m.texts (N:Int) (H:Int) s=some (bL m f i (H:Int) s)/\
   qbt 10000 m.recs m.funcs m.imps m.ints m.texts f.1 f.2.1 f.2.2.1 f.2.2.2.1 f.2.2.2.2 i.1 i.2.1 i.2.2 s=some (dK m f i s)/\
   (bL m f i (H:Int) s).1.length≤400/\(bL m f i (H:Int) s).2.1.length≤2/\∀t∈(bL m f i (H:Int) s).2.1,0≤t/\t<(f.2.2.2.2.length:Int):=by
 obtain⟨r,hr,l1,l2,e1,e2⟩:=RY 10000 m N H f i s hc hf O hs (by omega);have hR:dK m f i s=r:=by unfold dK;rw[hr];rfl
 have hF:bL m f i (H:Int) s=iS f i (H:Int) s r:=by unfold bL;rw[hR]
 have J:=Rx (f:=f) (i:=i) (pc:=(H:Int)) (s:=s) (r:=r) hs l2;rw[hF,hR];refine⟨e1,e2,hr,J.1,J.2,λt ht=>?_⟩;have K:=yj hf;have M:=yj O;have hN:=qX hc K M;have Z:=wV ((gM (eA hc).1).2.2.2.1 f K |>.1 i M);have hA:i.1=23\/i.1=24->i.2.1<(f.2.2.2.2.length:Int):=by
  obtain⟨op,x,y⟩:=i
  rintro(h|h)
  ·simp only at h;subst h;exact of_decide_eq_true (show decide (x<aC f.2.2.2.2)=true from hN)
  ·simp only at h;subst h;exact of_decide_eq_true (show decide (x<aC f.2.2.2.2)=true from hN)
 have hpk:=r9 O;unfold iS at ht;split at ht
 ·cases ht
 ·split at ht
  ·cases ht
  ·rename_i h2;unfold Gk at ht;simp only at ht;split at ht
   ·cases ht
   ·rename_i Y;split at ht
    ·rename_i U;obtain rfl:=yi1.1 ht;exact⟨Z.1,hA (.inl U)⟩
    ·rename_i W;have hlt:(H:Int)+1<(f.2.2.2.2.length:Int):=by
      by_cases h:(H:Int)+1<(f.2.2.2.2.length:Int)
      ·exact h
      ·exact absurd ⟨Y,W,Int.not_lt.1 h⟩ h2
     split at ht
     ·rename_i V;rcases yk1.1 ht with rfl|ht
      ·omega
      ·obtain rfl:=yi1.1 ht;exact⟨Z.1,hA (.inr V)⟩
     ·obtain rfl:=yi1.1 ht;omega
def dI(sh:List bT)(after:List cQ)(t:Int):Bool:=match aF sh t with|some x=>x.1&&bO after x.2|none=>false
noncomputable def I8(m:aX)(f:gH)(sh:List bT)(i:BL)(pc:Int)(x:bT):Bool:=
 !decide (x.2.length>8)&&(!x.1||((bL m f i pc x.2).2.2==0&&(bL m f i pc x.2).2.1.all (dI sh (bL m f i pc x.2).1)))
noncomputable def sU(m:aX)(f:gH)(sh:List bT)(pc:Nat):Bool:=match sh[pc]?,f.2.2.2.2[pc]? with|some x,some i=>I8 m f sh i (pc:Int) x|_,_=>false
noncomputable def sJ(m:aX)(f:gH)(sh:List bT):Bool:=decide (sh.length=f.2.2.2.2.length)&&(match sh with|x::_=>x.1&&!decide (x.2.length>0)| []=>false)&&(List.range sh.length).all (sU m f sh)
noncomputable def WW(m:aX)(maps:List (List bT))(k:Nat):Bool:=match maps[k]?,m.funcs[k]? with|some sh,some f=>sJ m f sh|_,_=>false
theorem Mh{m:aX}{H:List (List bT)}{k:Nat}{sh:List bT}{f:gH}(K:H[k]?=some sh)(J:m.funcs[k]?=some f):WW m H k=sJ m f sh:=by unfold WW;rw[K,J]
noncomputable def iG(m:aX)(maps:List (List bT)):Bool:=fR m&&(decide (maps.length=m.funcs.length)&&(List.range maps.length).all (WW m maps))
theorem VI{α:Type}{l:List α}{t:Int}(H:0≤t)(h:t<(l.length:Int)): ∃x,aF l t=some x:=by
 obtain⟨a,J,_⟩:=iE H h;exact⟨a,J⟩
theorem fO{m:aX}(h:fR m=true):bQ m=0:=by
 unfold fR at h;rw[yc]at h;exact beq_iff_eq.1 h.1
end Sx
end
section
namespace Sx
open Go Go.Ab
def J2(t:cQ):Prop:=((t.1=1\/t.1=2\/t.1=3\/t.1=6\/t.1=7\/t.1=8)/\t.2=0)\/t.1=4\/t.1=5
def Hd(s:List cQ):Prop:= ∀t∈s,J2 t
def JW(t:cQ):Nat:=if t.1=8 then 3 else if t.1=7 then 2 else if t.1=6 then 0 else 1
def dQ(a b:cQ):cQ:=if fS a b=true then b else if fS b a=true then a else if qQ a=true/\qQ b=true then(7,0)else(8,0)
theorem M8(n:Nat)(a b:cQ):qaw n a.1 a.2 b.1 b.2=some (dQ a b):=by
 unfold qaw dQ;rw[A4 n a b,A4 n b a,AO n a,AO n b];simp only[ya];cases fS a b<;>cases fS b a<;>cases qQ a<;>cases qQ b<;>rfl
theorem Dm{recs:Int}{t:cQ}(h:iJ recs t=true):J2 t:=by
 unfold iJ at h;unfold J2;split at h
 ·rename_i H;have:=eq_of_beq h;rcases H with H|H|H|H
  ·exact .inl ⟨.inl H,this⟩
  ·exact .inl ⟨.inr (.inl H),this⟩
  ·exact .inl ⟨.inr (.inr (.inl H)),this⟩
  ·exact .inl ⟨.inr (.inr (.inr (.inr (.inl H)))),this⟩
 ·split at h
  ·exact .inr (.inl (by assumption))
  ·split at h
   ·exact .inr (.inr (by assumption))
   ·cases h
theorem OH{a b:cQ}(V:J2 a)(hb:J2 b):J2 (dQ a b)/\fS a (dQ a b)=true/\fS b (dQ a b)=true/\JW (dQ a b)≤3/\JW a≤JW (dQ a b)/\(dQ a b≠a->JW a<JW (dQ a b)):=by
 have K: ∀t:cQ,JW t≤3:=λt=>by unfold JW;split<;>(try split)<;>(try split)<;>omega
 have key: ∀j:cQ,J2 j->fS a j=true->JW a≤JW j/\(j≠a->JW a<JW j):=by
  intro j W hs;rcases(eW a j).1 hs with rfl|h8|⟨r1,r2,r3⟩
  ·exact⟨yb1 _,λh=>absurd rfl h⟩
  ·have O:JW j=3:=by unfold JW;rw[if_pos h8]
   refine⟨by rw[O];exact K a,λH=>?_⟩;rw[O];by_cases Y:a.1=8
   ·exfalso;apply H;unfold J2 at V W;have e1:a.2=0:=by omega
    have e2:j.2=0:=by omega
    exact Prod.ext (by omega) (by omega)
   ·unfold JW;rw[if_neg Y];split
    ·omega
    ·split<;>omega
  ·rw[yT]at r1 r2;have M:a.1≠8:=by omega
   have N:j.1≠8:=by omega
   unfold JW;rw[if_neg M,if_neg N];by_cases U:a.1=7
   ·have J:j.1=7:=by omega
    rw[if_pos U,if_pos J];refine⟨yb1 _,λH=>absurd (Prod.ext (by omega) ?_) H⟩;unfold J2 at V W;omega
   ·rw[if_neg U];by_cases J:j.1=7
    ·rw[if_pos J];exact⟨by split<;>omega,λ_=>by split<;>omega⟩
    ·have ha6:a.1=6:=by omega
     rw[if_neg J,if_pos ha6];refine⟨Nat.zero_le _,λH=>?_⟩;split
     ·rename_i hj6;exfalso;apply H;unfold J2 at V W;exact Prod.ext (by omega) (by omega)
     ·omega
 have hw:J2 (dQ a b)/\fS a (dQ a b)=true/\fS b (dQ a b)=true:=by
  unfold dQ;by_cases h1:fS a b=true
  ·rw[if_pos h1];exact⟨hb,h1,nB b⟩
  ·rw[if_neg h1];by_cases Z:fS b a=true
   ·rw[if_pos Z];exact⟨V,nB a,Z⟩
   ·rw[if_neg Z];by_cases K:qQ a=true/\qQ b=true
    ·rw[if_pos K];exact⟨.inl ⟨.inr (.inr (.inr (.inr (.inl rfl)))),rfl⟩,(eW _ _).2 (.inr (.inr ⟨K.1,rfl,.inr rfl⟩)),(eW _ _).2 (.inr (.inr ⟨K.2,rfl,.inr rfl⟩))⟩
    ·rw[if_neg K];exact⟨.inl ⟨.inr (.inr (.inr (.inr (.inr rfl)))),rfl⟩,(eW _ _).2 (.inr (.inl rfl)),(eW _ _).2 (.inr (.inl rfl))⟩
 obtain⟨w1,w2,w3⟩:=hw;obtain⟨k1,k2⟩:=key _ w1 w2;exact⟨w1,w2,w3,K _,k1,k2⟩
theorem PA{m:aX}(h:c8 m=true):(∀f∈m.funcs,Hd f.1/\J2 (f.2.1,f.2.2.1)/\Hd f.2.2.2.1)/\(∀i∈m.imps,J2 (i.2.1,i.2.2))/\∀l∈m.recs,Hd l:=by
 simp only[c8,yc,decide_eq_true_eq,ya1]at h;obtain⟨_,J,_,_,H,_,N,_⟩:=h;refine⟨λf hf=>?_,λi K=>?_,λl M=>?_⟩
 ·have:=H f hf;simp only[qP,cE,yc,ya1]at this;exact⟨λt ht=>Dm (this.1.2 t ht),Dm this.2.1,λt ht=>Dm (this.2.2.1.2 t ht)⟩
 ·have:=N i K;simp only[yP,yc]at this;exact Dm this.2
 ·have:=J l M;simp only[cE,yc,ya1]at this;exact λt ht=>Dm (this.2 t ht)
theorem RW{a l:List cQ}(K:Hd a)(J:Hd l)(k:Int):J2 (Fv a l k):=by
 unfold Fv;split
 ·rename_i h;have H:k.toNat<(a++l).length:=by rw[yi];omega
  rw[ym,ye H];have:=yf2 H;rcases yr1.1 this with h|h
  ·exact K _ h
  ·exact J _ h
 ·exact .inl ⟨.inr (.inr (.inr (.inr (.inr rfl)))),rfl⟩
theorem CB{t:cQ}(h:J2 t):Hd [t]:=λx H=>by rw[yi1.1 H];exact h
theorem Xm{t u:cQ}(h:J2 t)(J:J2 u):Hd [t,u]:=λx H=>by
 rcases yk1.1 H with rfl|H
 ·exact h
 ·rw[yi1.1 H];exact J
theorem Oq:Hd []:=λx H=>by cases H
theorem Ew(k:Int)(h:k=1\/k=2\/k=3\/k=6\/k=7\/k=8):J2 (k,0):= .inl ⟨h,rfl⟩
theorem U6(n:Nat)(m:aX)(f:gH)(i:BL)(s:List cQ)(r:List cQ×List cQ×Bool)(hc:bQ m=0)(hf:f∈m.funcs)(hi:i∈f.2.2.2.2)(hs:s.length≤200)(Z:Hd s)
  (hr:qbt n m.recs m.funcs m.imps m.ints m.texts f.1 f.2.1 f.2.2.1 f.2.2.2.1 f.2.2.2.2 i.1 i.2.1 i.2.2 s=some r):Hd r.2.1:=by
 obtain⟨hF,hB⟩:=eA hc;obtain⟨k1,k2,k3,k4,k5⟩:=gM hF;obtain⟨g1,g2,g3⟩:=PA hF;have hN:=qX hc hf hi;have N:=(k4 f hf).1 i hi;have hfl:=k4 f hf;have K:=wV N;unfold kP at N;have N:=of_decide_eq_false N;have ha:=vD (op:=i.1) (by omega);obtain⟨op,x,y⟩:=i;simp only at K;have hk:op=0\/op=1\/op=2\/op=3\/op=4\/op=5\/op=6\/op=7\/op=8\/op=9\/op=10\/op=11\/op=12\/op=13\/op=14\/op=15\/op=16\/op=17\/op=18\/op=19\/op=20\/op=21\/op=22\/op=23\/op=24\/op=25\/op=26\/op=27\/op=28\/op=29\/op=30\/op=31\/op=32\/op=33\/op=34\/op=35\/op=36\/op=37\/op=38\/op=39\/op=40\/op=41:=by simp only at ha;omega
 rcases hk with rfl|rfl|rfl|rfl|rfl|rfl|rfl|rfl|rfl|rfl|rfl|rfl|rfl|rfl|rfl|rfl|rfl|rfl|rfl|rfl|rfl|rfl|rfl|rfl|rfl|rfl|rfl|rfl|rfl|rfl|rfl|rfl|rfl|rfl|rfl|rfl|rfl|rfl|rfl|rfl|rfl|rfl
 ·obtain rfl:=yb hr;exact CB (Ew 1 (by omega))
 ·obtain rfl:=yb hr;exact CB (Ew 2 (by omega))
 ·obtain rfl:=yb hr;exact CB (Ew 6 (by omega))
 ·simp only[qbt,Int.reduceBEq,yg,yh,lV n f.1 f.2.1 f.2.2.1 f.2.2.2.1 f.2.2.2.2 x (by omega),ya]at hr;obtain rfl:=yb hr;exact CB (RW (g1 f hf).1 (g1 f hf).2.2 x)
 ·simp only[qbt,Int.reduceBEq,yg,yh,lV n f.1 f.2.1 f.2.2.1 f.2.2.2.1 f.2.2.2.2 x (by omega),ya]at hr;obtain rfl:=yb hr;exact Oq
 ·obtain rfl:=yb hr;exact Oq
 ·simp only[qbt,Int.reduceBEq,yg,yh]at hr;by_cases h:1≤s.length
  ·obtain⟨q,t,rfl⟩:=nT h;rw[yi,yn1]at hs;have O:aF (q++ [t]) (bY .i64 (aC (q++ [t])) 1)=some t:=cK q [t] 1 0 (by simp;omega) rfl (by omega) (by simp);have J:bY .i64 (aC (q++ [t])) 1=((q.length:Nat):Int):=by
    rw[aB,yi,cW (by simp<;>omega) (by simp<;>omega)];simp
   rw[O,J,aB,yi,yn1,decide_eq_false (by omega),decide_eq_true (by omega),decide_eq_true (by omega)]at hr;simp only[yh,yg,ya,yj1,yz]at hr;obtain rfl:=yb hr;have ht:=Z t (by simp);exact Xm ht ht
  ·rw[aB,decide_eq_true (by omega)]at hr;obtain rfl:=yb hr;exact Oq
 ·simp only[qbt,Int.reduceBEq,yg,yh]at hr;by_cases h:2≤s.length
  ·obtain⟨q,t,u,rfl⟩:=Dq h;rw[yi]at hs;simp only[yw,yz2]at hs;have W:aF (q++ [t,u]) (bY .i64 (aC (q++ [t,u])) 1)=some u:=cK q [t,u] 1 1 (by simp;omega) rfl (by omega) (by simp);have V:aF (q++ [t,u]) (bY .i64 (aC (q++ [t,u])) 2)=some t:=cK q [t,u] 2 0 (by simp;omega) rfl (by omega) (by simp);have J:bY .i64 (aC (q++ [t,u])) 2=((q.length:Nat):Int):=by
    rw[aB,yi,cW (by simp<;>omega) (by simp<;>omega)];simp
   rw[W,V,J,aB,yi]at hr;simp only[yw,yz2]at hr;rw[decide_eq_false (by omega),decide_eq_true (by omega),decide_eq_true (by omega)]at hr;simp only[yh,yg,ya,yj1,yz]at hr;obtain rfl:=yb hr;exact Xm (Z u (by simp)) (Z t (by simp))
  ·rw[aB,decide_eq_true (by omega)]at hr;obtain rfl:=yb hr;exact Oq
 ·obtain rfl:=yb hr;exact CB (Ew 1 (by omega))
 ·obtain rfl:=yb hr;exact CB (Ew 1 (by omega))
 ·obtain rfl:=yb hr;exact CB (Ew 1 (by omega))
 ·obtain rfl:=yb hr;exact CB (Ew 1 (by omega))
 ·obtain rfl:=yb hr;exact CB (Ew 1 (by omega))
 ·obtain rfl:=yb hr;exact CB (Ew 1 (by omega))
 ·obtain rfl:=yb hr;exact CB (Ew 1 (by omega))
 ·obtain rfl:=yb hr;exact CB (Ew 1 (by omega))
 ·obtain rfl:=yb hr;exact CB (Ew 1 (by omega))
 ·obtain rfl:=yb hr;exact CB (Ew 1 (by omega))
 ·obtain rfl:=yb hr;exact CB (Ew 1 (by omega))
 ·obtain rfl:=yb hr;exact CB (Ew 1 (by omega))
 ·obtain rfl:=yb hr;exact CB (Ew 1 (by omega))
 ·obtain rfl:=yb hr;exact CB (Ew 1 (by omega))
 ·obtain rfl:=yb hr;exact Xm (Ew 1 (by omega)) (Ew 1 (by omega))
 ·obtain rfl:=yb hr;exact Oq
 ·obtain rfl:=yb hr;exact Oq
 ·have H:x<(m.funcs.length:Int):=of_decide_eq_true (show decide (x<aC m.funcs)=true from hN);obtain⟨a,e,hm⟩:=iE K.1 H;simp only[qbt,Int.reduceBEq,yg,yh,e,ya]at hr;obtain rfl:=yb hr;exact CB (g1 a hm).2.1
 ·obtain rfl:=yb hr;exact Oq
 ·have H:x<(m.imps.length:Int):=of_decide_eq_true (show decide (x<aC m.imps)=true from hN);obtain⟨a,e,hm⟩:=iE K.1 H;simp only[qbt,Int.reduceBEq,yg,yh,e,ya]at hr;obtain rfl:=yb hr;exact CB (g2 a hm)
 ·have H:x<(m.recs.length:Int):=of_decide_eq_true (show decide (x<aC m.recs)=true from hN);obtain⟨a,e,hm⟩:=iE K.1 H;simp only[qbt,Int.reduceBEq,yg,yh,e,ya]at hr;obtain rfl:=yb hr;exact CB (.inr (.inl rfl))
 ·have hN:(bif decide (x<aC m.recs)then(aF m.recs x).bind λl=>some (decide (y<aC l))else some false).getD false=true:=hN;by_cases H:x<(m.recs.length:Int)
  ·rw[aB,decide_eq_true H,yh]at hN;obtain⟨a,e,hm⟩:=iE K.1 H;rw[e]at hN;have Y:y<(a.length:Int):=of_decide_eq_true hN;obtain⟨b,U,M⟩:=iE K.2.2.1 Y;simp only[qbt,Int.reduceBEq,yg,yh,e,U,ya]at hr;obtain rfl:=yb hr;exact CB (g3 a hm b M)
  ·rw[aB,decide_eq_false H]at hN;cases hN
 ·have hN:(bif decide (x<aC m.recs)then(aF m.recs x).bind λl=>some (decide (y<aC l))else some false).getD false=true:=hN;by_cases H:x<(m.recs.length:Int)
  ·rw[aB,decide_eq_true H,yh]at hN;obtain⟨a,e,hm⟩:=iE K.1 H;rw[e]at hN;have Y:y<(a.length:Int):=of_decide_eq_true hN;obtain⟨b,U,M⟩:=iE K.2.2.1 Y;simp only[qbt,Int.reduceBEq,yg,yh,e,U,ya]at hr;obtain rfl:=yb hr;exact Oq
  ·rw[aB,decide_eq_false H]at hN;cases hN
 ·obtain rfl:=yb hr;exact CB (Ew 3 (by omega))
 ·obtain rfl:=yb hr;exact CB (Ew 1 (by omega))
 ·obtain rfl:=yb hr;exact Oq
 ·obtain rfl:=yb hr;exact CB (Ew 1 (by omega))
 ·obtain rfl:=yb hr;exact CB (Ew 2 (by omega))
 ·obtain rfl:=yb hr;exact CB (Ew 1 (by omega))
 ·obtain rfl:=yb hr;exact Oq
 ·obtain rfl:=yb hr;exact CB (Ew 1 (by omega))
 ·obtain rfl:=yb hr;exact CB (Ew 1 (by omega))
 ·obtain rfl:=yb hr;exact CB (Ew 1 (by omega))
 ·simp only[qbt,Int.reduceBEq,yg,yh]at hr;by_cases h:1≤s.length
  ·obtain⟨q,t,rfl⟩:=nT h;rw[yi,yn1]at hs;have O:aF (q++ [t]) (bY .i64 (aC (q++ [t])) 1)=some t:=cK q [t] 1 0 (by simp;omega) rfl (by omega) (by simp);have J:bY .i64 (aC (q++ [t])) 1=((q.length:Nat):Int):=by
    rw[aB,yi,cW (by simp<;>omega) (by simp<;>omega)];simp
   rw[O,J,aB,yi,yn1,decide_eq_false (by omega),decide_eq_true (by omega),decide_eq_true (by omega)]at hr;simp only[yh,yg,ya,yj1,yz]at hr;cases h5:t.1 !=5<;>rw[h5]at hr<;>(obtain rfl:=yb hr;exact Oq)
  ·rw[aB,decide_eq_true (by omega)]at hr;obtain rfl:=yb hr;exact Oq
theorem HV{m:aX}{K H:Nat}{f:gH}{i:BL}{s:List cQ}(hc:bQ m=0)(hf:m.funcs[K]?=some f)(J:f.2.2.2.2[H]?=some i)(hs:s.length≤200)(M:Hd s):Hd (bL m f i (H:Int) s).1/\(bL m f i (H:Int) s).1.length≤8:=by
 obtain⟨_,_,hr,_,_,_⟩:=jK m K H f i s hc hf J hs;have O:=U6 10000 m f i s _ hc (yj hf) (yj J) hs M hr;unfold bL iS;split
 ·exact⟨Oq,by simp⟩
 ·rename_i h;split
  ·exact⟨Oq,by simp⟩
  ·refine⟨λt ht=>?_,?_⟩
   ·rcases yr1.1 ht with h|h
    ·exact M t (yk3 h)
    ·exact O t h
   ·simp only[yi,yj2];have: ¬(s.length-(dK m f i s).1.length+(dK m f i s).2.1.length>8):=λN=>h (.inr (.inr (.inl N)));omega
end Sx
end
section
namespace Sx
open Go Go.Ab
def FT:List cQ->Nat
 | []=>0
 |t::r=>JW t+FT r
def dR:List cQ->List cQ->List cQ
 |x::s,y::a=>dQ x y::dR s a
 |_,_=> []
theorem oD(x y:cQ)(s a:List cQ):bO (x::s) (y::a)=(fS x y&&bO s a):=by
 unfold bO R6;simp only[yw,List.zip_cons_cons,yn3,Nat.add_right_cancel_iff];cases fS x y<;>cases decide (s.length=a.length)<;>rfl
theorem Af: ∀(s a:List cQ),s.length=a.length->Hd s->Hd a->Hd (dR s a)/\(dR s a).length=s.length/\bO s (dR s a)=true/\bO a (dR s a)=true/\FT s≤FT (dR s a)/\
  (dR s a≠s->FT s<FT (dR s a))
 | [],[],_,_,_=>⟨Oq,rfl,rfl,rfl,yb1 _,λh=>absurd rfl h⟩
 |x::s,y::a,H,hs,M=>by
  have J:s.length=a.length:=by simpa using H
  obtain⟨U,i2,N,i4,i5,i6⟩:=Af s a J (λt ht=>hs t (yk _ ht)) (λt ht=>M t (yk _ ht));obtain⟨W,Z,O,j4,j5,V⟩:=OH (hs x (yn ..)) (M y (yn ..));refine⟨λt ht=>?_,by simp[dR,i2],?_,?_,?_,λh=>?_⟩
  ·rcases yk1.1 ht with rfl|ht
   ·exact W
   ·exact U t ht
  ·show bO (x::s) (dQ x y::dR s a)=true;rw[oD,Z,N];rfl
  ·show bO (y::a) (dQ x y::dR s a)=true;rw[oD,O,i4];rfl
  ·show JW x+FT s≤JW (dQ x y)+FT (dR s a);omega
  ·show JW x+FT s<JW (dQ x y)+FT (dR s a);by_cases K:dQ x y=x
   ·have:dR s a≠s:=λY=>h (by show dQ x y::dR s a=x::s;rw[K,Y]);have:=i6 this;omega
   ·have:=V K;omega
 | [],_::_,H,_,_=>by simp at H
 |_::_,[],H,_,_=>by simp at H
theorem Wn(t:cQ):JW t≤3:=by unfold JW;split<;>(try omega);split<;>(try omega);split<;>omega
theorem Q2: ∀s:List cQ,FT s≤3*s.length
 | []=>by simp[FT]
 |t::r=>by
  have:=Q2 r;have:=Wn t;simp only[FT,yw];omega
theorem U3(x y:cQ):UB x y=true↔x=y:=by
 unfold UB;rw[yc,beq_iff_eq,beq_iff_eq];exact⟨λh=>Prod.ext h.1 h.2,λh=>by rw[h];exact⟨rfl,rfl⟩⟩
theorem Nn(s a:List cQ):R6 UB s a=true↔s=a:=by
 constructor
 ·intro h;obtain⟨M,H⟩:=kD h;exact List.ext_getElem M λi J K=>(U3 _ _).1 (H i J K)
 ·rintro rfl
  exact IY s λx _=>Oe x
theorem d9{a b:List cQ}(h:bO a b=true):a.length=b.length:=(kD h).1
def R4(x:bT):Nat:=if x.1=true then 1+FT x.2 else 0
def mu:List bT->Nat
 | []=>0
 |x::r=>R4 x+mu r
theorem Ql: ∀(l:List bT) (k:Nat) (x v:bT),l[k]?=some x->mu (l.set k v)+R4 x=mu l+R4 v
 | [],k,x,v,h=>by simp at h
 |y::r,0,x,v,h=>by
  obtain rfl:y=x:=by simpa using h
  simp only[List.set_cons_zero,mu];omega
 |y::r,k+1,x,v,h=>by
  have:=Ql r k x v (by simpa using h);simp only[List.set_cons_succ,mu];omega
structure pI (L:Nat) (mp:List bT):Prop where
 len:mp.length=L
 fst:mp[0]?=some (true,[])
 all: ∀x∈mp,Hd x.2/\x.2.length≤8
theorem NY: ∀(l:List bT),(∀x∈l,Hd x.2/\x.2.length≤8)->mu l≤25*l.length
 | [],_=>by simp[mu]
 |x::r,h=>by
  have h1:=NY r λy H=>h y (yk _ H);have h2:=(h x (yn ..)).2;have h3:=Q2 x.2;have h4:R4 x≤25:=by unfold R4;split<;>omega
  simp only[mu,yw];omega
def lP(a b:List bT):Prop:=a.length=b.length/\∀(k:Nat) (x:bT),a[k]?=some x->∃y:bT,b[k]?=some y/\(x.1=true->y.1=true/\bO x.2 y.2=true)
theorem lP.refl(a:List bT):lP a a:=⟨rfl,λk x h=>⟨x,h,λH=>⟨H,oM _⟩⟩⟩
theorem lP.trans{a b c:List bT}(h:lP a b)(H:lP b c):lP a c:=⟨h.1.trans H.1,λk x K=>by
 obtain⟨y,J,f⟩:=h.2 k x K;obtain⟨z,M,g⟩:=H.2 k y J
 exact⟨z,M,λe=>⟨(g (f e).1).1,o6 (f e).2 (g (f e).1).2⟩⟩⟩
structure yO (c:Bool) (a:List bT) (c':Bool) (b:List bT):Prop where
 le:lP a b
 or:(c'=c/\b=a)\/(c'=true/\mu a<mu b)
theorem yO.refl(c:Bool)(a:List bT):yO c a c a:=⟨lP.refl a,.inl ⟨rfl,rfl⟩⟩
theorem yO.trans{c K J:Bool}{a b d:List bT}(h:yO c a K b)(H:yO K b J d):yO c a J d:=⟨h.le.trans H.le,by
 rcases h.or with ⟨rfl,rfl⟩|⟨O,N⟩
 ·exact H.or
 ·rcases H.or with ⟨rfl,rfl⟩|⟨M,h4⟩
  ·exact .inr ⟨O,N⟩
  ·exact .inr ⟨M,by omega⟩⟩
theorem JQ{L:Nat}{mp:List bT}(hI:pI L mp){k:Nat}{x v:bT}(J:mp[k]?=some x)(hv:Hd v.2)(h8:v.2.length≤8)(U:v.1=true)(W:x.1=true->bO x.2 v.2=true)(V:R4 x<R4 v)(c:Bool):
  pI L (mp.set k v)/\yO c mp true (mp.set k v)/\(mp.set k v)[k]?=some v:=by
 have K:k<mp.length:=(yd.1 J).1;have N:(mp.set k v)[k]?=some v:=by rw[yt K]
 refine⟨⟨by rw[yg3];exact hI.len,?_,λy H=>?_⟩,⟨⟨by rw[yg3],λj y H=>?_⟩,.inr ⟨rfl,?_⟩⟩,N⟩
 ·by_cases O:k=0
  ·subst O;rw[hI.fst]at J;obtain rfl:=yb J;exfalso;have Z:=d9 (W rfl);have Y:v.2= []:=List.length_eq_zero_iff.1 Z.symm;have h4:v=(true,[]):=Prod.ext U Y;rw[h4]at V;exact yk4 _ V
  ·rw[yp O];exact hI.fst
 ·rcases ym2 H with h|rfl
  ·exact hI.all y h
  ·exact⟨hv,h8⟩
 ·by_cases M:k=j
  ·subst M;rw[J]at H;obtain rfl:=yb H;exact⟨v,N,λe=>⟨U,W e⟩⟩
  ·exact⟨y,by rw[yp M];exact H,λe=>⟨e,oM _⟩⟩
 ·have:=Ql mp k x v J;omega
theorem Em{a b:List bT}(h:lP a b){s:List cQ}{t:Int}(hn:dI a s t=true):dI b s t=true:=by
 unfold dI at hn⊢
 cases J:aF a t with
 |none=>rw[J]at hn;cases hn
 |some x=>
  rw[J]at hn;simp only[yc]at hn;have H:0≤t/\a[t.toNat]?=some x:=by
   unfold aF at J;by_cases K:0≤t
   ·refine⟨K,?_⟩;simpa[K]using J
   ·simp[K]at J
  obtain⟨y,M,f⟩:=h.2 _ x H.2;have:aF b t=some y:=by
   obtain⟨k,rfl⟩:=yc3 H.1;rw[aE];simpa using M
  rw[this];simp only[yc];exact⟨(f hn.1).1,o6 hn.2 (f hn.1).2⟩
end Sx
end
section
namespace Sx
open Go Go.Ab
theorem Sb(n:Nat)(m:aX)(f:gH)(i:BL)(a b:List cQ)(H:kP i=false)(K:i.1≠6)(O:i.1≠7)(J:i.1≠41):
  qbt n m.recs m.funcs m.imps m.ints m.texts f.1 f.2.1 f.2.2.1 f.2.2.2.1 f.2.2.2.2 i.1 i.2.1 i.2.2 a=qbt n m.recs m.funcs m.imps m.ints m.texts f.1 f.2.1 f.2.2.1 f.2.2.2.1 f.2.2.2.2 i.1 i.2.1 i.2.2 b:=by
 unfold kP at H;have H:=of_decide_eq_false H;have N:=vD (op:=i.1) (by omega);obtain⟨op,x,y⟩:=i;have M:op=0\/op=1\/op=2\/op=3\/op=4\/op=5\/op=6\/op=7\/op=8\/op=9\/op=10\/op=11\/op=12\/op=13\/op=14\/op=15\/op=16\/op=17\/op=18\/op=19\/op=20\/op=21\/op=22\/op=23\/op=24\/op=25\/op=26\/op=27\/op=28\/op=29\/op=30\/op=31\/op=32\/op=33\/op=34\/op=35\/op=36\/op=37\/op=38\/op=39\/op=40\/op=41:=by simp only at N;omega
 rcases M with rfl|rfl|rfl|rfl|rfl|rfl|rfl|rfl|rfl|rfl|rfl|rfl|rfl|rfl|rfl|rfl|rfl|rfl|rfl|rfl|rfl|rfl|rfl|rfl|rfl|rfl|rfl|rfl|rfl|rfl|rfl|rfl|rfl|rfl|rfl|rfl|rfl|rfl|rfl|rfl|rfl|rfl
 ·rfl
 ·rfl
 ·rfl
 ·rfl
 ·rfl
 ·rfl
 ·exact absurd rfl K
 ·exact absurd rfl O
 ·rfl
 ·rfl
 ·rfl
 ·rfl
 ·rfl
 ·rfl
 ·rfl
 ·rfl
 ·rfl
 ·rfl
 ·rfl
 ·rfl
 ·rfl
 ·rfl
 ·rfl
 ·rfl
 ·rfl
 ·rfl
 ·rfl
 ·rfl
 ·rfl
 ·rfl
 ·rfl
 ·rfl
 ·rfl
 ·rfl
 ·rfl
 ·rfl
 ·rfl
 ·rfl
 ·rfl
 ·rfl
 ·rfl
 ·exact absurd rfl J
theorem vO{s inn:List cQ}(hl:inn.length≤s.length):mC s inn=true↔∀j (K:j<inn.length),fS (s[s.length-inn.length+j]'(by omega)) inn[j]=true:=by
 unfold mC;rw[ya1];constructor
 ·intro h j K;have hd:j<(s.drop (s.length-inn.length)).length:=by rw[yd4];omega
  have:=h (inn[j],(s.drop (s.length-inn.length))[j]) (by
   have J:j<(inn.zip (s.drop (s.length-inn.length))).length:=by rw[List.length_zip];omega
   have:(inn.zip (s.drop (s.length-inn.length)))[j]=(inn[j],(s.drop (s.length-inn.length))[j]):=by rw[ye4]
   rw[<-this];exact yf2 J)
  simp only[List.getElem_drop]at this;exact this
 ·intro h q M;obtain⟨j,H,rfl⟩:=yb2 M;rw[List.length_zip]at H;rw[ye4];simp only[List.getElem_drop];exact h j (by omega)
theorem Qd{a b inn:List cQ}(h:bO a b=true)(hl:inn.length≤b.length)(ht:mC b inn=true):mC a inn=true:=by
 obtain⟨l,e⟩:=kD h;rw[vO (by omega)]at ht⊢
 intro j K;have:=ht j K;have J:=e (b.length-inn.length+j) (by omega) (by omega);have H:a.length-inn.length+j=b.length-inn.length+j:=by omega
 simp only[H];exact H2 J this
theorem PZ{a b:List cQ}(k:Nat)(h:bO a b=true):bO (a.take k) (b.take k)=true:=by
 obtain⟨l,e⟩:=kD h;refine I9 (by simp[l]) λi J H=>?_;rw[List.getElem_take,List.getElem_take];rw[yj2]at J H;exact e i (by omega) (by omega)
theorem Sw{a b c d:List cQ}(h:bO a b=true)(O:bO c d=true):bO (a++c) (b++d)=true:=by
 obtain⟨l,e⟩:=kD h;obtain⟨M,N⟩:=kD O;refine I9 (by simp[l,M]) λi U K=>?_;rw[yi]at U K;by_cases J:i<a.length
 ·rw[List.getElem_append_left J,List.getElem_append_left (by omega)];exact e i J (by omega)
 ·rw[yh3 (by omega),yh3 (by omega)];have H:i-b.length=i-a.length:=by omega
  simp only[H];exact N (i-a.length) (by omega) (by omega)
abbrev Wc:=List cQ×List cQ×Bool
theorem If{f:gH}{i:BL}{pc:Int}{s:List cQ}{r:Wc}(h:(iS f i pc s r).2.2=0):r.2.2=true/\r.1.length≤s.length/\s.length-r.1.length+r.2.1.length≤8/\mC s r.1=true/\
  ¬(i.1≠26/\i.1≠23/\pc+1≥(f.2.2.2.2.length:Int))/\iS f i pc s r=(s.take (s.length-r.1.length)++r.2.1,Gk i pc,0):=by
 unfold iS at h⊢
 by_cases H:r.2.2=false\/s.length<r.1.length\/s.length-r.1.length+r.2.1.length>8\/mC s r.1=false
 ·rw[if_pos H]at h;cases h
 ·rw[if_neg H]at h⊢
  by_cases K:i.1≠26/\i.1≠23/\pc+1≥(f.2.2.2.2.length:Int)
  ·rw[if_pos K]at h;cases h
  ·rw[if_neg K];refine⟨?_,?_,?_,?_,K,rfl⟩
   ·cases J:r.2.2 with
    |true=>rfl
    |false=>exact absurd (.inl J) H
   ·rcases yq2 s.length r.1.length with h|h
    ·exact absurd (.inr (.inl h)) H
    ·exact h
   ·rcases yq2 8 (s.length-r.1.length+r.2.1.length)with h|h
    ·exact absurd (.inr (.inr (.inl h))) H
    ·exact h
   ·cases J:mC s r.1 with
    |true=>rfl
    |false=>exact absurd (.inr (.inr (.inr J))) H
theorem Ul{f:gH}{i:BL}{pc:Int}{s:List cQ}{r:Wc}(K:r.2.2=true)(h2:r.1.length≤s.length)(h3:s.length-r.1.length+r.2.1.length≤8)(J:mC s r.1=true)
    (H: ¬(i.1≠26/\i.1≠23/\pc+1≥(f.2.2.2.2.length:Int))):iS f i pc s r=(s.take (s.length-r.1.length)++r.2.1,Gk i pc,0):=by
  unfold iS
  rw [if_neg (by rintro (h | h | h | h); · rw [K] at h; cases h
                 · omega
                 · omega
                 · rw[J]at h;cases h),if_neg H]
theorem PX{f:gH}{i:BL}{pc:Int}{a b:List cQ}{H J:Wc}(K:bO a b=true)(V:(iS f i pc b J).2.2=0)(U:H.2.2=true)(h2:H.1.length=J.1.length)(M:bO H.2.1 J.2.1=true)(O:mC a H.1=true):
  (iS f i pc a H).2.2=0/\bO (iS f i pc a H).1 (iS f i pc b J).1=true/\(iS f i pc a H).2.1=(iS f i pc b J).2.1:=by
 obtain⟨k1,k2,k3,k4,Y,W⟩:=If V;have hl:=(kD K).1;have N:=(kD M).1;rw[Ul U (by omega) (by omega) O Y,W];refine⟨rfl,?_,rfl⟩;simp only;rw[show a.length-H.1.length=b.length-J.1.length by omega];exact Sw (PZ _ K) M
theorem HG{r q:List cQ}{x y:cQ}(h:bO (r++ [x]) (q++ [y])=true):fS x y=true:=by
 obtain⟨l,e⟩:=kD h;simp at l;have:=e r.length (by simp) (by simp;omega);rw[yh3 (by omega),yh3 (by omega)]at this;simpa[l]using this
theorem SM{r q:List cQ}{x y u v:cQ}(h:bO (r++ [x,u]) (q++ [y,v])=true):fS x y=true/\fS u v=true:=by
 have H:bO ((r++ [x])++ [u]) ((q++ [y])++ [v])=true:=by simpa using h
 refine⟨?_,HG H⟩;obtain⟨l,e⟩:=kD h;simp at l;have:=e r.length (by simp) (by simp;omega);rw[yh3 (by omega),yh3 (by omega)]at this;simpa[l]using this
theorem PM(n:Nat)(m:aX)(f:gH)(i:BL)(a b:List cQ)(O N:Wc)(hbad:kP i=false)(hs:b.length≤200)(M:bO a b=true)
  (ea:qbt n m.recs m.funcs m.imps m.ints m.texts f.1 f.2.1 f.2.2.1 f.2.2.2.1 f.2.2.2.2 i.1 i.2.1 i.2.2 a=some O) (eb:qbt n m.recs m.funcs m.imps m.ints m.texts f.1 f.2.1 f.2.2.1 f.2.2.2.1 f.2.2.2.2 i.1 i.2.1 i.2.2 b=some N)
  (J:N.2.2=true) (W:N.1.length≤b.length) (ht:mC b N.1=true):O.2.2=true/\O.1.length=N.1.length/\bO O.2.1 N.2.1=true/\mC a O.1=true:=by
 have hl:=(kD M).1;by_cases h6:i.1=6
 ·obtain⟨op,x,y⟩:=i;simp only at h6;subst h6;have dup: ∀(s:List cQ) (r:Wc),s.length≤200->qbt n m.recs m.funcs m.imps m.ints m.texts f.1 f.2.1 f.2.2.1 f.2.2.2.1 f.2.2.2.2 6 x y s=some r->(s= []/\r=([],[],false))\/∃q t,s=q++ [t]/\r=([t],[t,t],true):=by
   intro s r hs hr;simp only[qbt,Int.reduceBEq,yg,yh]at hr;by_cases h:1≤s.length
   ·obtain⟨q,t,rfl⟩:=nT h;rw[yi,yn1]at hs;have hg:aF (q++ [t]) (bY .i64 (aC (q++ [t])) 1)=some t:=cK q [t] 1 0 (by simp;omega) rfl (by omega) (by simp);have H:bY .i64 (aC (q++ [t])) 1=((q.length:Nat):Int):=by
     rw[aB,yi,cW (by simp<;>omega) (by simp<;>omega)];simp
    rw[hg,H,aB,yi,yn1,decide_eq_false (by omega),decide_eq_true (by omega),decide_eq_true (by omega)]at hr;simp only[yh,yg,ya,yj1,yz]at hr;rw[yp2 (by simp),yq3]at hr;exact .inr ⟨q,t,rfl,(yb hr).symm⟩
   ·left;have:s= []:=yu (by omega);rw[aB,decide_eq_true (by omega)]at hr;exact⟨this,(yb hr).symm⟩
  rcases dup b N hs eb with ⟨_,rfl⟩|⟨q,t,rfl,rfl⟩
  ·cases J
  ·rcases dup a O (by omega) ea with ⟨rfl,rfl⟩|⟨p,u,rfl,rfl⟩
   ·simp at hl
   ·have H:=HG M;refine⟨rfl,rfl,I9 rfl λj K h2=>?_,(vO (by simp)).2 λj K=>?_⟩
    ·match j,K with
     |0,_=>exact H
     |1,_=>exact H
    ·simp at K;subst K;simp[nB]
 ·by_cases h7:i.1=7
  ·obtain⟨op,x,y⟩:=i;simp only at h7;subst h7;have Y: ∀(s:List cQ) (r:Wc),s.length≤200->qbt n m.recs m.funcs m.imps m.ints m.texts f.1 f.2.1 f.2.2.1 f.2.2.2.1 f.2.2.2.2 7 x y s=some r->(s.length<2/\r=([],[],false))\/∃q t u,s=q++ [t,u]/\r=([t,u],[u,t],true):=by
    intro s r hs hr;simp only[qbt,Int.reduceBEq,yg,yh]at hr;by_cases h:2≤s.length
    ·obtain⟨q,t,u,rfl⟩:=Dq h;rw[yi]at hs;simp only[yw,yz2]at hs;have hg1:aF (q++ [t,u]) (bY .i64 (aC (q++ [t,u])) 1)=some u:=cK q [t,u] 1 1 (by simp;omega) rfl (by omega) (by simp);have hg2:aF (q++ [t,u]) (bY .i64 (aC (q++ [t,u])) 2)=some t:=cK q [t,u] 2 0 (by simp;omega) rfl (by omega) (by simp);have H:bY .i64 (aC (q++ [t,u])) 2=((q.length:Nat):Int):=by
      rw[aB,yi,cW (by simp<;>omega) (by simp<;>omega)];simp
     rw[hg1,hg2,H,aB,yi]at hr;simp only[yw,yz2]at hr;rw[decide_eq_false (by omega),decide_eq_true (by omega),decide_eq_true (by omega)]at hr;simp only[yh,yg,ya,yj1,yz]at hr;rw[yp2 (by simp),yq3]at hr;exact .inr ⟨q,t,u,rfl,(yb hr).symm⟩
    ·left;rw[aB,decide_eq_true (by omega)]at hr;exact⟨by omega,(yb hr).symm⟩
   rcases Y b N hs eb with ⟨_,rfl⟩|⟨q,t,u,rfl,rfl⟩
   ·cases J
   ·rcases Y a O (by omega) ea with ⟨h2,rfl⟩|⟨p,v,w,rfl,rfl⟩
    ·simp at hl;omega
    ·obtain⟨s1,s2⟩:=SM M;refine⟨rfl,rfl,I9 rfl λj K h2=>?_,(vO (by simp)).2 λj K=>?_⟩
     ·match j,K with
      |0,_=>exact s2
      |1,_=>exact s1
     ·match j,K with
      |0,_=>simp[nB]
      |1,_=>simp[nB]
  ·by_cases V:i.1=41
   ·obtain⟨op,x,y⟩:=i;simp only at V;subst V;have Z: ∀(s:List cQ) (r:Wc),s.length≤200->qbt n m.recs m.funcs m.imps m.ints m.texts f.1 f.2.1 f.2.2.1 f.2.2.2.1 f.2.2.2.2 41 x y s=some r->(s= []/\r=([],[],false))\/∃q t,s=q++ [t]/\r=(if t.1=5 then([t],[],true)else([],[],false)):=by
     intro s r hs hr;simp only[qbt,Int.reduceBEq,yg,yh]at hr;by_cases h:1≤s.length
     ·obtain⟨q,t,rfl⟩:=nT h;rw[yi,yn1]at hs;have hg:aF (q++ [t]) (bY .i64 (aC (q++ [t])) 1)=some t:=cK q [t] 1 0 (by simp;omega) rfl (by omega) (by simp);have H:bY .i64 (aC (q++ [t])) 1=((q.length:Nat):Int):=by
       rw[aB,yi,cW (by simp<;>omega) (by simp<;>omega)];simp
      rw[hg,H,aB,yi,yn1,decide_eq_false (by omega),decide_eq_true (by omega),decide_eq_true (by omega)]at hr;simp only[yh,yg,ya,yj1,yz]at hr;rw[yp2 (by simp),yq3]at hr;refine .inr ⟨q,t,rfl,?_⟩;by_cases U:t.1=5
      ·rw[show(t.1 !=5)=false from by rw[U];rfl]at hr;rw[if_pos U];exact(yb hr).symm
      ·rw[show(t.1 !=5)=true from bne_iff_ne.2 U]at hr;rw[if_neg U];exact(yb hr).symm
     ·left;have:s= []:=yu (by omega);rw[aB,decide_eq_true (by omega)]at hr;exact⟨this,(yb hr).symm⟩
    rcases Z b N hs eb with ⟨_,rfl⟩|⟨q,t,rfl,rfl⟩
    ·cases J
    ·by_cases U:t.1=5
     ·rcases Z a O (by omega) ea with ⟨rfl,rfl⟩|⟨p,u,rfl,rfl⟩
      ·simp at hl
      ·have H:=HG M;have hut:u=t:=by
        rcases(eW u t).1 H with h|h|⟨_,h,_⟩
        ·exact h
        ·omega
        ·rw[yT]at h;omega
       subst hut;rw[if_pos U]at ht W⊢
       refine⟨rfl,rfl,rfl,(vO (by simp)).2 λj K=>?_⟩;simp at K;subst K;simp[nB]
     ·rw[if_neg U]at J;cases J
   ·have he:=Sb n m f i a b hbad h6 h7 V;rw[ea,eb]at he;obtain rfl:=yb he;exact⟨J,rfl,oM _,Qd M W ht⟩
end Sx
end
