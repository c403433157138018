/- Plain laws. -/
import Derived.Test.YtjjjbgicidhpfaaDoorLib10
import Derived.Test.YtjjjbgicidhpfaaDoorItSh
set_option linter.unusedVariables false
set_option linter.unusedSimpArgs false
section
namespace Sx
open Go Go.Ab
theorem G8{A:Type}{xs:List A}{i:Nat}{x:A}(h:xs[i]?=some x):i<xs.length:=(yd.1 h).1
theorem loop_two{A B' X S:Type}{xs:List A}{H:List B'}{B:S->Option (S⊕X)}{mk:Nat->S}{p:A->B'->Bool}{found:Nat->A->B'->X}{e:X}(K:xs.length=H.length)
  (hs: ∀i x y,xs[i]?=some x->H[i]?=some y->B (mk i)=(if p x y=true then some (.inl (mk (i+1)))else some (.inr (found i x y))))
  (V:B (mk xs.length)=some (.inr e)) (n:Nat) (hn:xs.length<n):
  ((xs.zip H).all (λq=>p q.1 q.2)=true/\aY B n (mk 0)=some e)\/((xs.zip H).all (λq=>p q.1 q.2)=false/\∃i x y,aY B n (mk 0)=some (found i x y)):=by
 have W:(xs.zip H).length=xs.length:=by simp[K]
 have h:=dF (xs:=xs.zip H) (B:=B) (mk:=mk) (p:=λq=>!p q.1 q.2) (found:=λi q=>found i q.1 q.2) (e:=e) (λi q J=>?_) (by rw[W];exact V) xs.length 0 n (by omega) hn
 ·rw[yp2]at h;have O:(xs.zip H).all (λq=>p q.1 q.2)=!(xs.zip H).any (λq=>!p q.1 q.2):=by rw[List.all_eq_not_any_not]
  rcases h with ⟨N,k,q,_,_,M⟩|⟨N,M⟩
  ·exact .inr ⟨by rw[O,N];rfl,k,q.1,q.2,M⟩
  ·exact .inl ⟨by rw[O,N];rfl,M⟩
 ·have U:i<(xs.zip H).length:=G8 J;rw[yf U]at J;have J:=ya J;rw[yc4]at J;have Z:xs[i]?=some q.1:=by rw[<-J,yf]
  have Y:H[i]?=some q.2:=by rw[<-J,yf]
  rw[hs i q.1 q.2 Z Y];cases p q.1 q.2<;>rfl
def TY{A:Type}(p:A->A->Bool)(xs ys:List A):Bool:=decide (xs.length=ys.length)&&(xs.zip ys).all (λq=>p q.1 q.2)
theorem Sk{A B:Type}(a:List A)(b:List B):(aC a !=aC b)=!decide (a.length=b.length):=by
 rw[aD,aD];by_cases h:a.length=b.length
 ·simp[h]
 ·rw[decide_eq_false h]
  show(!((a.length:Int)==(b.length:Int)))=!false
  rw[beq_eq_false_iff_ne.2 (by omega)]
theorem RG{A:Type}{p:A->A->Bool}(xs:List A)(h: ∀x∈xs,p x x=true):TY p xs xs=true:=by
 unfold TY;rw[decide_eq_true rfl,yo2,yf1];intro q H;obtain⟨i,hi,rfl⟩:=yx1 H;rw[yc4];exact h _ (yk2 _)
theorem jE{A:Type}{p:A->A->Bool}{xs H:List A}(h:TY p xs H=true):xs.length=H.length/\∀i (K:i<xs.length) (M:i<H.length),p xs[i] H[i]=true:=by
 unfold TY at h;rw[yc,decide_eq_true_eq,yf1]at h;refine⟨h.1,λi K M=>?_⟩
 have:=h.2 (xs[i],H[i]) (by
  have J:i<(xs.zip H).length:=by simp;omega
  have:(xs.zip H)[i]=(xs[i],H[i]):=by rw[yc4]
  rw[<-this];exact yk2 J)
 exact this
theorem HG{A:Type}{p:A->A->Bool}{xs H:List A}(J:xs.length=H.length)(h: ∀i (h1:i<xs.length) (h2:i<H.length),p xs[i] H[i]=true):TY p xs H=true:=by
 unfold TY;rw[yc,decide_eq_true_eq,yf1];refine⟨J,λq M=>?_⟩;obtain⟨i,K,rfl⟩:=yx1 M;rw[yc4];simp at K;exact h i (by omega) (by omega)
end Sx
end
section
namespace Sx
open Go Go.Ab
def rF(t:Int×Int):Bool:=t.1==2||(t.1==3||(t.1==4||(t.1==6||t.1==7)))
def f7(a b:Int×Int):Bool:=(a.1==b.1&&a.2==b.2)||(b.1==8||(rF a&&(rF b&&(a.1==6||b.1==7))))
theorem qcb_eq(n:Nat)(t:Int×Int):qcb n t.1 t.2=some (rF t):=by
 unfold qcb rF;cases t.1==2<;>cases t.1==3<;>cases t.1==4<;>cases t.1==6<;>cases t.1==7<;>rfl
theorem IG(n:Nat)(t:Int×Int):Bt n t.1 t.2=some (rF t):=by
 unfold Bt rF;cases t.1==2<;>cases t.1==3<;>cases t.1==4<;>cases t.1==6<;>cases t.1==7<;>rfl
theorem qbz_eq(n:Nat)(a b:Int×Int):qbz n a.1 a.2 b.1 b.2=some (f7 a b):=by
 unfold qbz f7;rw[qcb_eq n a,qcb_eq n b];simp only[yb];cases(a.1==b.1&&a.2==b.2)<;>cases b.1==8<;>cases rF a<;>cases rF b<;>cases a.1==6<;>rfl
theorem QT(n:Nat)(a b:Int×Int):Hf n a.1 a.2 b.1 b.2=some (f7 a b):=by
 unfold Hf f7;rw[IG n a,IG n b];simp only[yb];cases(a.1==b.1&&a.2==b.2)<;>cases b.1==8<;>cases rF a<;>cases rF b<;>cases a.1==6<;>rfl
theorem lU(a:Int×Int):f7 a a=true:=by simp[f7]
theorem fP(a b:Int×Int):f7 a b=true↔a=b\/b.1=8\/(rF a=true/\rF b=true/\(a.1=6\/b.1=7)):=by
 unfold f7;simp only[yc2,yc,beq_iff_eq];have:(a.1=b.1/\a.2=b.2)↔a=b:=by
  constructor
  ·intro h;exact Prod.ext h.1 h.2
  ·rintro rfl;exact⟨rfl,rfl⟩
 rw[this]
theorem FT(t:Int×Int):rF t=true↔t.1=2\/t.1=3\/t.1=4\/t.1=6\/t.1=7:=by simp[rF]
theorem F6{a b c:Int×Int}(h:f7 a b=true)(J:f7 b c=true):f7 a c=true:=by
 rw[fP]at h J⊢
 rcases J with rfl|J|⟨K,M,H⟩
 ·exact h
 ·exact .inr (.inl J)
 ·rcases h with rfl|h|⟨N,g2,g3⟩
  ·exact .inr (.inr ⟨K,M,H⟩)
  ·rw[FT]at K;omega
  ·refine .inr (.inr ⟨N,M,?_⟩);rcases H with H|H
   ·left;omega
   ·exact .inr H
def bR(a b:List (Int×Int)):Bool:=TY f7 a b
theorem pO(a:List (Int×Int)):bR a a=true:=RG a λx _=>lU x
theorem sQ{a b c:List (Int×Int)}(h:bR a b=true)(K:bR b c=true):bR a c=true:=by
 obtain⟨l1,N⟩:=jE h;obtain⟨l2,J⟩:=jE K;exact HG (by omega) λi H M=>F6 (N i H (by omega)) (J i (by omega) M)
def Cy(a l:List (Int×Int))(k:Int):Int×Int:=if 0≤k/\k<(a.length+l.length:Int)then(a++l).getD k.toNat (8,0)else(8,0)
theorem qbb_eq(n:Nat)(a:List (Int×Int))(N r1:Int)(l:List (Int×Int))(c:List (Int×Int×Int))(k:Int)(hl:a.length+l.length≤4294967296):qbb n a N r1 l c k=some (Cy a l k):=by
 unfold qbb Cy;rw[aD,aD,cL (by omega) (by omega)];by_cases J:k≥0
 ·rw[decide_eq_true J];simp only[yg];obtain⟨j,rfl⟩: ∃j:Nat,k=(j:Int):=⟨k.toNat,by omega⟩
  by_cases K:(j:Int)<(a.length:Int)
  ·have H:j<a.length:=by omega
   rw[decide_eq_true K,yg,aP,if_pos (by omega),yy,yf H,yb,ym,yq H,yf H];rfl
  ·rw[decide_eq_false K,yh];by_cases M:(j:Int)<(a.length:Int)+(l.length:Int)
   ·have H:j-a.length<l.length:=by omega
    rw[decide_eq_true M,yg,if_pos (by omega),cT (by omega) (by omega)];have:(j:Int)-(a.length:Int)=((j-a.length:Nat):Int):=by omega
    rw[this,aP,yf H,yb,yy,ym,yx (by omega),yf H];rfl
   ·rw[decide_eq_false M,yh,if_neg (by omega)]
 ·rw[decide_eq_false J];simp only[yh];rw[if_neg (by omega)]
theorem j7(n:Nat)(a:List (Int×Int))(M r1:Int)(l:List (Int×Int))(c:List (Int×Int×Int))(k:Int)(hl:a.length+l.length≤4294967296):s8 n a M r1 l c k=some (Cy a l k):=by
 unfold s8 Cy;rw[cV (by omega),yg,cV (by rw[yi];omega),yg,aD,yi];by_cases H:k<0
 ·rw[decide_eq_true H,yg,if_neg (by omega)]
 ·rw[decide_eq_false H,yh];obtain⟨j,rfl⟩: ∃j:Nat,k=(j:Int):=⟨k.toNat,by omega⟩
  by_cases K:(j:Int)≥((a.length+l.length:Nat):Int)
  ·rw[decide_eq_true K,yg,if_neg (by omega)]
  ·have J:j<(a++l).length:=by rw[yi];omega
   rw[decide_eq_false K,yh,decide_eq_true (by omega:(0:Int)≤(j:Int)),decide_eq_true (by omega:(j:Int)<((a.length+l.length:Nat):Int)),yi1,yg,if_pos (by omega),yy,yf J,
    yb,ym,yf J]
   rfl
end Sx
end
section
namespace Sx
open Go Go.Ab
def GG:Nat->Nat->List Int
 |0,v=> [(v:Int)]
 |k+1,v=>if v<128 then [(v:Int)]else((128+v%128:Nat):Int)::GG k (v/128)
def eV(v:Nat):List Int:=GG 10 v
theorem GI: ∀(k v:Nat),1≤(GG k v).length/\(GG k v).length≤k+1
 |0,v=>⟨ya1 _,ya1 _⟩
 |k+1,v=>by
  unfold GG;split
  ·exact⟨by simp,by simp⟩
  ·have:=GI k (v/128);rw[yz];omega
theorem cI(v:Nat):1≤(eV v).length/\(eV v).length≤11:=GI 10 v
theorem UT(v:Nat):UM .u8 (jT .u8 (v:Int)) 128=((128+v%128:Nat):Int):=by
 rw[Fi];have h: ∀m:Nat,m<256->UM .u8 (m:Int) 128=((128+m%128:Nat):Int):=by decide+kernel
 have:=h (v%256) (by omega);rw[show((v:Int)%256)=((v%256:Nat):Int) by omega,this];omega
theorem Vg(v:Nat):Qk .u64 (v:Int) 7=((v/128:Nat):Int):=by
 show(v:Int).fdiv (2 ^ (min (7:Int).toNat 64))=_
 rw[show((2:Int) ^ (min (7:Int).toNat 64))=128 from rfl,Int.fdiv_eq_ediv_of_nonneg _ (by omega)];omega
theorem qcc_loop(n:Nat): ∀(k v m:Nat) (acc:List Int),v<128 ^ (k+1)->acc.length+k≤4294967000->k<m->∃r,aY (λs=>qcc_B0 n s.1 s.2) m ((v:Int),acc)=some r/\0≤r.1/\r.1≤127/\r.2++ [r.1]=acc++GG k v/\r.2.length≤acc.length+k
 |0,v,m+1,acc,H,V,hm=>by
  refine⟨((v:Int),acc),b4 ?_,by omega,by simp only[];omega,rfl,by simp⟩;show qcc_B0 n (v:Int) acc=_;unfold qcc_B0;rw[decide_eq_false (by omega),yh]
 |k+1,v,m+1,acc,H,V,hm=>by
  by_cases h:v<128
  ·refine⟨((v:Int),acc),b4 ?_,by omega,by simp only[];omega,by simp[GG,h],by simp⟩;show qcc_B0 n (v:Int) acc=_;unfold qcc_B0;rw[decide_eq_false (by omega),yh]
  ·have N:qcc_B0 n (v:Int) acc=some (Sum.inl (((v/128:Nat):Int),acc++ [((128+v%128:Nat):Int)])):=by
    unfold qcc_B0;rw[decide_eq_true (by omega),yg,UT,Vg,cV (by simp;omega),yg]
   rw[b8 (s:=((v:Int),acc)) N];obtain⟨r,O,U,J,K,M⟩:=qcc_loop n k (v/128) m (acc++ [((128+v%128:Nat):Int)]) (by rw[Nat.pow_succ]at H;omega) (by simp;omega) (by omega);refine⟨r,O,U,J,?_,by simp at M;omega⟩;rw[K,GG,if_neg h];simp
 |_,_,0,_,_,_,hm=>by omega
theorem qcc_eq(n v:Nat)(hv:v<18446744073709551616)(hn:20≤n):qcc n (v:Int)=some (eV v):=by
 unfold qcc;obtain⟨r,J,K,h3,H,h5⟩:=qcc_loop n 10 v n [] (by omega) (by simp) (by omega);rw[show qcc_W0 n ((v:Int),[])=some r from J,yb,B1 K (by omega),H,cV (by have:=cI v;simp[eV]at this;simp;omega),yg];rfl
theorem T3{v:Nat}(hv:v<18446744073709551616):T0 .u64 (v:Int) 128=((v/128:Nat):Int):=by
 show IntKind.u64.wrap ((v:Int).tdiv 128)=_;rw[Int.tdiv_eq_ediv_of_nonneg (by omega),Kd];omega
theorem K7(n:Nat): ∀(k v d:Nat),v<128 ^ (k+1)->v<18446744073709551616->k<d->k≤11->rN n d (v:Int)=some (GG k v)
 |0,v,d+1,K,H,J,N=>by
  show n6 n (rN n d) (v:Int)=_;unfold n6;rw[decide_eq_true (by omega),yg,B1 (by omega) (by omega)];rfl
 |k+1,v,d+1,K,H,J,N=>by
  show n6 n (rN n d) (v:Int)=_;unfold n6;by_cases h:v<128
  ·rw[decide_eq_true (by omega),yg,B1 (by omega) (by omega),GG,if_pos h]
  ·have hl:=GI k (v/128);rw[decide_eq_false (by omega),yh,T3 H,K7 n k (v/128) d (by rw[Nat.pow_succ]at K;omega) (by omega) (by omega) (by omega),yb,KR (by omega)];have M:aX .u64 128 ((v:Int)%128)=((128+v%128:Nat):Int):=by
    show IntKind.u64.wrap _=_;rw[Kd];omega
   rw[M,B1 (by omega) (by omega),cV (by simp;omega),yg,GG,if_neg h];rfl
 |_,_,0,_,_,J,_=>by omega
theorem QQ(n v:Nat)(H:v<18446744073709551616)(hn:20≤n):KY n (v:Int)=some (eV v):=K7 n 10 v n (by omega) H (by omega) (by omega)
def Ky(k v:Nat):List Int:=(List.range k).map λi=>((v/256 ^ i%256:Nat):Int)
theorem GN(k v:Nat):(Ky k v).length=k:=by simp[Ky]
def Sw(k:Int):Nat:=k.toNat
def Fx(t:Int×Int):List Int:=eV (Sw t.1)++eV (Sw t.2)
theorem oK(t:Int×Int):(Fx t).length≤22:=by
 have:=cI (Sw t.1);have:=cI (Sw t.2);rw[Fx,yi];omega
def UI(x:Int):Prop:= -9223372036854775808≤x/\x≤9223372036854775807
def U0(t:Int×Int):Prop:=UI t.1/\UI t.2
theorem R2{k:Int}(h:UI k):Sw k<18446744073709551616:=by
 unfold Sw;unfold UI at h;omega
theorem TP{k:Int}(h:UI k):jT .u64 (L6 k 0)=((Sw k:Nat):Int):=by
 unfold L6 Sw;unfold UI at h;by_cases h0:k<0
 ·rw[decide_eq_true (by omega),yg];have:k.toNat=0:=by omega
  rw[this];rfl
 ·rw[decide_eq_false (by omega),yh,qN (by omega) (by omega)];omega
theorem qbx_eq(n:Nat)(t:Int×Int)(ht:U0 t)(hn:20≤n):qbx n t.1 t.2=some (Fx t):=by
 unfold qbx;have hl:=oK t;rw[TP ht.1,TP ht.2,qcc_eq n _ (R2 ht.1) hn,yb,qcc_eq n _ (R2 ht.2) hn,yb]
 show(bif Nat.ble (Fx t).length 4294967296 then some (Fx t)else none)=_
 rw[cV (by omega),yg]
def rH(recs:Int)(t:Int×Int):Bool:=
 if t.1=1\/t.1=2\/t.1=3\/t.1=7 then t.2==0 else if t.1=4 then decide (0≤t.2/\t.2<recs)else if t.1=5 then decide (0≤t.2/\t.2<4)else false
theorem JZ(n:Nat)(t:Int×Int)(recs:Int):qbl n t.1 t.2 recs=some (rH recs t):=by
 obtain⟨k,m⟩:=t;unfold qbl rH;simp only[Bool.cond_eq_ite,beq_iff_eq,decide_eq_true_eq];by_cases N:k=1
 ·simp[N]
 by_cases O:k=2
 ·simp[O]
 by_cases H:k=3
 ·simp[H]
 by_cases K:k=7
 ·simp[K]
 by_cases J:k=4
 ·by_cases hm:0≤m<;>simp[J,hm]
 by_cases M:k=5
 ·by_cases hm:0≤m<;>simp[M,hm]
 simp[N,O,H,J,M,K]
end Sx
end
section
namespace Sx
open Go Go.Ab
def iF(op:Int):Int:=
 if op<0\/42≤op then-1 else if op=29\/op=30 then 2
 else if op=0\/op=1\/op=3\/op=4\/op=23\/op=24\/op=25\/op=27\/op=28 then 1 else 0
theorem Lq(op:Int):iF op= -1\/iF op=0\/iF op=1\/iF op=2:=by
 unfold iF;split
 ·exact .inl rfl
 ·split
  ·exact .inr (.inr (.inr rfl))
  ·split
   ·exact .inr (.inr (.inl rfl))
   ·exact .inr (.inl rfl)
theorem wH{op:Int}(h:0≤iF op):0≤op/\op<42:=by
 unfold iF at h;split at h<;>omega
theorem qbp_eq(n:Nat)(op:Int):qbp n op=some (iF op):=by
 by_cases h:0≤op/\op<42
 ·obtain⟨k,rfl⟩: ∃k:Nat,op=(k:Int):=⟨op.toNat,by omega⟩
  have K: ∀k:Nat,k<42->qbp 0 (k:Int)=some (iF (k:Int)):=by decide+kernel
  exact K k (by omega)
 ·have J:iF op= -1:=by
   unfold iF;rw[if_pos (by omega)]
  rw[J];unfold qbp;simp only[Bool.cond_eq_ite,beq_iff_eq,decide_eq_true_eq];rw[if_neg (by omega),if_neg (by omega),if_neg (by omega),if_neg (by omega),if_neg (by omega),if_neg (by omega),if_neg (by omega),if_neg (by omega),if_neg (by omega),if_neg (by omega),if_neg (by omega)];by_cases H:op<0
  ·rw[if_pos H]
  ·rw[if_neg H,if_pos (by omega)]
theorem qby_eq(n:Nat)(v:Int)(b:Bool):qby n v b=some (decide (0≤v/\v≤255/\(b=true\/v=0))):=by
 unfold qby;simp only[Bool.cond_eq_ite,decide_eq_true_eq];by_cases H:v≥0
 ·by_cases J:v≤255
  ·cases b with
   |true=>rw[if_pos H,if_pos J,if_pos rfl,decide_eq_true (by simp;omega)]
   |false=>
    rw[if_pos H,if_pos J,if_neg (by simp)];by_cases K:v=0
    ·simp[K]
    ·rw[beq_false_of_ne K,decide_eq_false (by simp;omega)]
  ·rw[if_pos H,if_neg J,decide_eq_false (by omega)]
 ·rw[if_neg H,decide_eq_false (by omega)]
def oY(i:Int×Int×Int):Bool:=
 decide (iF i.1<0\/¬(0≤i.2.1/\i.2.1≤255/\(iF i.1>0\/i.2.1=0))\/¬(0≤i.2.2/\i.2.2≤255/\(iF i.1>1\/i.2.2=0)))
def Fy(i:Int×Int×Int):List Int:=
 if oY i=true then []else i.1::((if iF i.1>0 then eV i.2.1.toNat else [])++(if iF i.1>1 then eV i.2.2.toNat else []))
theorem FY(i:Int×Int×Int):(Fy i).length≤23:=by
 unfold Fy;have:=cI i.2.1.toNat
 have:=cI i.2.2.toNat
 split
 ·simp
 ·rw[yz,yi];split<;>split<;>simp<;>omega
theorem Sz(i:Int×Int×Int):((Fy i).length==0)=oY i:=by
 unfold Fy;cases oY i<;>simp
theorem OS(n:Nat)(v:Int)(H:0≤v)(h2:v≤255)(hn:20≤n):qcc n (jT .u64 v)=some (eV v.toNat)/\KY n (jT .u64 v)=some (eV v.toNat):=by
 have:jT .u64 v=((v.toNat:Nat):Int):=by rw[qN H (by omega)];omega
 rw[this];exact⟨qcc_eq n _ (by omega) hn,QQ n _ (by omega) hn⟩
theorem qca_eq(n:Nat)(i:Int×Int×Int)(hn:20≤n):qca n i.1 i.2.1 i.2.2=some (Fy i):=by
 obtain⟨op,a,b⟩:=i;unfold qca Fy oY;rw[qbp_eq,yb];simp only[];by_cases U:iF op<0
 ·rw[decide_eq_true U,yg,if_pos (by rw[decide_eq_true (.inl U)])]
 rw[decide_eq_false U,yh,qby_eq,yb];by_cases O:0≤a/\a≤255/\(iF op>0\/a=0)
 ·have K:0≤a/\a≤255/\(decide (iF op>0)=true\/a=0):=by simpa using O
  rw[decide_eq_true K,yf2,yh,qby_eq,yb];by_cases M:0≤b/\b≤255/\(iF op>1\/b=0)
  ·have J:0≤b/\b≤255/\(decide (iF op>1)=true\/b=0):=by simpa using M
   have V:=wH (op:=op) (by omega);rw[decide_eq_true J,yf2,yh,if_neg (by rw[decide_eq_false];simp;exact λh=>by rcases h with h|h|h;exact U h;exact h O;exact h M),B1 V.1 (by omega)];have W:=(OS n a O.1 O.2.1 hn).1;have Y:=(OS n b M.1 M.2.1 hn).1;have la:=cI a.toNat
   have lb:=cI b.toNat
   rcases Lq op with N|N|N|N
   ·omega
   ·rw[N];obtain⟨m,rfl⟩: ∃m,n=m+1:=⟨n-1,by omega⟩
    rw[show(decide ((0:Int)≤0)&&decide ((0:Int)≤2))=true from rfl,yg];have h:qca_W0 (m+1) (((0,(Int.toNat 0)-0),(((((Int.toNat 0)-0):Nat):Int),0)),([op],(a,b)))=some ([op],(a,b)):=by
     refine b4 ?_;rfl
    rw[h];rfl
   ·rw[N];obtain⟨m,rfl⟩: ∃m,n=m+2:=⟨n-2,by omega⟩
    rw[show(decide ((0:Int)≤1)&&decide ((1:Int)≤2))=true from rfl,yg];have h:qca_W0 (m+2) (((0,(Int.toNat 1)-0),(((((Int.toNat 1)-0):Nat):Int),0)),([op],(a,b)))=some ([op]++eV a.toNat,(a,b)):=by
     refine(b8 (s':=(((0,1),((1:Int),(1:Int))),([op]++eV a.toNat,(a,b)))) ?_).trans (b4 ?_)
     ·show((qcc (m+2) (jT .u64 a)).bind λH=>bif Nat.ble ([op]++H).length 4294967296 then some (Sum.inl (((0,1),((1:Int),(aX .i64 0 1))),(([op]++H),(a,b))))else none)=_
      rw[W,yb,cV (by simp;omega)];rfl
     ·rfl
    rw[h];simp
   ·rw[N];obtain⟨m,rfl⟩: ∃m,n=m+3:=⟨n-3,by omega⟩
    rw[show(decide ((0:Int)≤2)&&decide ((2:Int)≤2))=true from rfl,yg];have h:qca_W0 (m+3) (((0,(Int.toNat 2)-0),(((((Int.toNat 2)-0):Nat):Int),0)),([op],(a,b)))=some (([op]++eV a.toNat)++eV b.toNat,(a,b)):=by
     refine(b8 (s':=(((0,2),((2:Int),(1:Int))),([op]++eV a.toNat,(a,b)))) ?_).trans ((b8 (s':=(((0,2),((2:Int),(2:Int))),(([op]++eV a.toNat)++eV b.toNat,(a,b)))) ?_).trans (b4 ?_))
     ·show((qcc (m+3) (jT .u64 a)).bind λH=>bif Nat.ble ([op]++H).length 4294967296 then some (Sum.inl (((0,2),((2:Int),(aX .i64 0 1))),(([op]++H),(a,b))))else none)=_
      rw[W,yb,cV (by simp;omega)];rfl
     ·show((qcc (m+3) (jT .u64 b)).bind λH=>bif Nat.ble (([op]++eV a.toNat)++H).length 4294967296 then some (Sum.inl (((0,2),((2:Int),(aX .i64 1 1))),((([op]++eV a.toNat)++H),(a,b))))else none)=_
      rw[Y,yb,cV (by simp;omega)];rfl
     ·rfl
    rw[h];simp
  ·have J: ¬(0≤b/\b≤255/\(decide (iF op>1)=true\/b=0)):=by simpa using M
   rw[decide_eq_false J,yc3,yg,if_pos (by rw[decide_eq_true (.inr (.inr M))])]
 ·have K: ¬(0≤a/\a≤255/\(decide (iF op>0)=true\/a=0)):=by simpa using O
  rw[decide_eq_false K,yc3,yg,if_pos (by rw[decide_eq_true (.inr (.inl O))])]
end Sx
end
section
namespace Sx
open Go Go.Ab
abbrev cZ:=Int×Int
abbrev AM:=Int×Int×Int
abbrev i7:=List cZ×Int×Int×List cZ×List AM
abbrev Rx:=List cZ×Int×Int
def fO(recs most:Int)(l:List cZ):Bool:=decide ((l.length:Int)≤most)&&l.all (rH recs)
theorem RT(n:Nat)(l:List cZ)(recs:Int)(hl:l.length≤4294967000)(hn:l.length<n):qs n l recs=some (l.any (λt=>!rH recs t),recs):=by
 unfold qs qab;have h:=dF (B:=λs=>qab_B0 n s.1.1 s.1.2.1 s.1.2.2 s.2) (xs:=l) (mk:=λi=>((l,(aC l,(i:Int))),recs)) (p:=λt=>!rH recs t) (found:=λi x=>Sum.inl ((i:Int),recs)) (e:=Sum.inr recs)
  (λi x K=>?_) ?_ l.length 0 n (by omega) hn
 ·rw[yp2]at h;rcases h with ⟨J,k,x,_,_,H⟩|⟨J,H⟩
  ·rw[show qab_W0 n ((l,(aC l,0)),recs)=some (Sum.inl ((k:Int),recs))from H,J];show some (decide ((k:Int)≥0),recs)=_;rw[decide_eq_true (by omega)]
  ·rw[show qab_W0 n ((l,(aC l,0)),recs)=some (Sum.inr recs)from H,J];rfl
 ·have hi:=bH K;show qab_B0 n l (aC l) (i:Int) recs=_;unfold qab_B0 qan;rw[aD,decide_eq_true (by omega),yg,aP,K,yb,JZ,yb,yb,bU (by omega)];cases rH recs x<;>rfl
 ·show qab_B0 n l (aC l) (l.length:Int) recs=_;unfold qab_B0;rw[aD,decide_eq_false (by omega),yh]
theorem BL{α:Type}(p:α->Bool)(l:List α):(!l.any λt=>!p t)=l.all p:=by
 induction l with
 |nil=>rfl
 |cons x l H=>rw[List.any_cons,ym3,<-H];cases p x<;>simp
theorem Rq(n:Nat)(l:List cZ)(recs H:Int)(J:l.length≤4294967000)(hn:l.length<n):qay n l recs H=some (fO recs H l):=by
 unfold qay fO;rw[aD,RT n l recs J hn,yb]
 show(bif decide ((l.length:Int)≤H)then some (!l.any λt=>!rH recs t)else some false)=_
 rw[BL];cases decide ((l.length:Int)≤H)<;>rfl
theorem zJ(n:Nat)(l:List cZ)(recs H:Int)(hm:H≤64)(hn:100≤n):qay n l recs H=some (fO recs H l):=by
 by_cases h:(l.length:Int)≤H
 ·exact Rq n l recs H (by omega) (by omega)
 ·unfold qay fO;rw[aD,decide_eq_false h,yh];rfl
theorem PB(n:Nat)(l:List (List cZ))(recs:Int)(hl:l.length≤64)(hn:100≤n):qg n l recs=some (l.any (λt=>!fO recs 6 t),recs):=by
 unfold qg qw;have h:=dF (B:=λs=>qw_B0 n s.1.1 s.1.2.1 s.1.2.2 s.2) (xs:=l) (mk:=λi=>((l,(aC l,(i:Int))),recs)) (p:=λt=>!fO recs 6 t) (found:=λi x=>Sum.inl ((i:Int),recs)) (e:=Sum.inr recs)
  (λi x K=>?_) ?_ l.length 0 n (by omega) (by omega)
 ·rw[yp2]at h;rcases h with ⟨J,k,x,_,_,H⟩|⟨J,H⟩
  ·rw[show qw_W0 n ((l,(aC l,0)),recs)=some (Sum.inl ((k:Int),recs))from H,J];show some (decide ((k:Int)≥0),recs)=_;rw[decide_eq_true (by omega)]
  ·rw[show qw_W0 n ((l,(aC l,0)),recs)=some (Sum.inr recs)from H,J];rfl
 ·have hi:=bH K;show qw_B0 n l (aC l) (i:Int) recs=_;unfold qw_B0 qaq;rw[aD,decide_eq_true (by omega),yg,aP,K,yb,zJ n x recs 6 (by omega) hn,yb,yb,bU (by omega)];cases fO recs 6 x<;>rfl
 ·show qw_B0 n l (aC l) (l.length:Int) recs=_;unfold qw_B0;rw[aD,decide_eq_false (by omega),yh]
theorem PT(n:Nat)(l:List AM)(hl:l.length≤64)(hn:100≤n):ql n l=some (l.any oY):=by
 unfold ql qz;have h:=dF (B:=λs=>qz_B0 n s.1 s.2.1 s.2.2) (xs:=l) (mk:=λi=>(l,(aC l,(i:Int)))) (p:=oY) (found:=λi x=>Sum.inl (i:Int)) (e:=Sum.inr ())
  (λi x K=>?_) ?_ l.length 0 n (by omega) (by omega)
 ·rw[yp2]at h;rcases h with ⟨J,k,x,_,_,H⟩|⟨J,H⟩
  ·rw[show qz_W0 n (l,(aC l,0))=some (Sum.inl (k:Int))from H,J];show some (decide ((k:Int)≥0))=_;rw[decide_eq_true (by omega)]
  ·rw[show qz_W0 n (l,(aC l,0))=some (Sum.inr ())from H,J];rfl
 ·have hi:=bH K;show qz_B0 n l (aC l) (i:Int)=_;unfold qz_B0 qaa;rw[aD,decide_eq_true (by omega),yg,aP,K,yb,qca_eq n x (by omega),yb,yb,bU (by omega),aD];have:(((Fy x).length:Int)==0)=oY x:=by
   rw[<-Sz];cases(Fy x).length<;>rfl
  rw[this];cases oY x<;>rfl
 ·show qz_B0 n l (aC l) (l.length:Int)=_;unfold qz_B0;rw[aD,decide_eq_false (by omega),yh]
def BG(recs:Int)(f:i7):Bool:=
 fO recs 4 f.1&&(rH recs (f.2.1,f.2.2.1)&&(fO recs (8-(f.1.length:Int)) f.2.2.2.1&&(decide (1≤f.2.2.2.2.length)&&(decide (f.2.2.2.2.length≤64)&&!f.2.2.2.2.any oY))))
theorem SM(n:Nat)(f:i7)(recs:Int)(hn:100≤n):qag n f.1 f.2.1 f.2.2.1 f.2.2.2.1 f.2.2.2.2 recs=some (BG recs f):=by
 obtain⟨a,k,m,l,c⟩:=f;unfold qag BG;rw[zJ n a recs 4 (by omega) hn,yb];simp only[];cases K:fO recs 4 a with
 |false=>rfl
 |true=>
  have ha:(a.length:Int)≤4:=by
   simp only[fO,yc,decide_eq_true_eq]at K;exact K.1
  rw[yg,JZ n (k,m) recs,yb];cases rH recs (k,m)with
  |false=>rfl
  |true=>
   rw[yg,aD,cT (by omega) (by omega),zJ n l recs _ (by omega) hn,yb];cases fO recs (8-(a.length:Int)) l with
   |false=>rfl
   |true=>
    rw[yg,aD];by_cases J:1≤c.length
    ·rw[decide_eq_true (by omega),yg,decide_eq_true J];by_cases H:c.length≤64
     ·rw[decide_eq_true (by omega),yg,decide_eq_true H,PT n c H hn,yb];simp
     ·rw[decide_eq_false (by omega),yh,decide_eq_false H];rfl
    ·rw[decide_eq_false (by omega),yh,decide_eq_false J];rfl
theorem SE(n:Nat)(l:List i7)(recs:Int)(hl:l.length≤64)(hn:100≤n):qr n l recs=some (l.any (λt=>!BG recs t),recs):=by
 unfold qr qaf;have h:=dF (B:=λs=>qaf_B0 n s.1.1 s.1.2.1 s.1.2.2 s.2) (xs:=l) (mk:=λi=>((l,(aC l,(i:Int))),recs)) (p:=λt=>!BG recs t) (found:=λi x=>Sum.inl ((i:Int),recs)) (e:=Sum.inr recs)
  (λi x K=>?_) ?_ l.length 0 n (by omega) (by omega)
 ·rw[yp2]at h;rcases h with ⟨J,k,x,_,_,H⟩|⟨J,H⟩
  ·rw[show qaf_W0 n ((l,(aC l,0)),recs)=some (Sum.inl ((k:Int),recs))from H,J];show some (decide ((k:Int)≥0),recs)=_;rw[decide_eq_true (by omega)]
  ·rw[show qaf_W0 n ((l,(aC l,0)),recs)=some (Sum.inr recs)from H,J];rfl
 ·have hi:=bH K;show qaf_B0 n l (aC l) (i:Int) recs=_;unfold qaf_B0 qao;rw[aD,decide_eq_true (by omega),yg,aP,K,yb,SM n x recs hn,yb,yb,bU (by omega)];cases BG recs x<;>rfl
 ·show qaf_B0 n l (aC l) (l.length:Int) recs=_;unfold qaf_B0;rw[aD,decide_eq_false (by omega),yh]
def Ln(recs:Int)(i:Rx):Bool:=fO recs 4 i.1&&rH recs (i.2.1,i.2.2)
theorem Oe(n:Nat)(l:List Rx)(recs:Int)(hl:l.length≤64)(hn:100≤n):qj n l recs=some (l.any (λt=>!Ln recs t),recs):=by
 unfold qj qv;have h:=dF (B:=λs=>qv_B0 n s.1.1 s.1.2.1 s.1.2.2 s.2) (xs:=l) (mk:=λi=>((l,(aC l,(i:Int))),recs)) (p:=λt=>!Ln recs t) (found:=λi x=>Sum.inl ((i:Int),recs)) (e:=Sum.inr recs)
  (λi x K=>?_) ?_ l.length 0 n (by omega) (by omega)
 ·rw[yp2]at h;rcases h with ⟨J,k,x,_,_,H⟩|⟨J,H⟩
  ·rw[show qv_W0 n ((l,(aC l,0)),recs)=some (Sum.inl ((k:Int),recs))from H,J];show some (decide ((k:Int)≥0),recs)=_;rw[decide_eq_true (by omega)]
  ·rw[show qv_W0 n ((l,(aC l,0)),recs)=some (Sum.inr recs)from H,J];rfl
 ·have hi:=bH K;show qv_B0 n l (aC l) (i:Int) recs=_;unfold qv_B0 qap;rw[aD,decide_eq_true (by omega),yg,aP,K,yb,zJ n x.1 recs 4 (by omega) hn,yb,bU (by omega)];unfold Ln;cases fO recs 4 x.1 with
  |false=>rfl
  |true=>
   rw[yf2,yh,JZ n (x.2.1,x.2.2) recs,yb,yb];cases rH recs (x.2.1,x.2.2)<;>rfl
 ·show qv_B0 n l (aC l) (l.length:Int) recs=_;unfold qv_B0;rw[aD,decide_eq_false (by omega),yh]
theorem Nh(n:Nat)(l:List ByteArray)(hl:l.length≤64)(hn:100≤n):qh n l=some (l.any (λs=>decide (s.size>32))):=by
 unfold qh qu;have h:=dF (B:=λs=>qu_B0 n s.1 s.2.1 s.2.2) (xs:=l) (mk:=λi=>(l,(aC l,(i:Int)))) (p:=λs=>decide (s.size>32)) (found:=λi x=>Sum.inl (i:Int)) (e:=Sum.inr ())
  (λi x K=>?_) ?_ l.length 0 n (by omega) (by omega)
 ·rw[yp2]at h;rcases h with ⟨J,k,x,_,_,H⟩|⟨J,H⟩
  ·rw[show qu_W0 n (l,(aC l,0))=some (Sum.inl (k:Int))from H,J];show some (decide ((k:Int)≥0))=_;rw[decide_eq_true (by omega)]
  ·rw[show qu_W0 n (l,(aC l,0))=some (Sum.inr ())from H,J];rfl
 ·have hi:=bH K;show qu_B0 n l (aC l) (i:Int)=_;unfold qu_B0 qaj;rw[aD,decide_eq_true (by omega),yg,aP,K,yb,yb,bU (by omega)];have:decide (K5 x>32)=decide (x.size>32):=by
   unfold K5;by_cases h:x.size>32
   ·rw[decide_eq_true h,decide_eq_true (by omega)]
   ·rw[decide_eq_false h,decide_eq_false (by omega)]
  rw[this];cases decide (x.size>32)<;>rfl
 ·show qu_B0 n l (aC l) (l.length:Int)=_;unfold qu_B0;rw[aD,decide_eq_false (by omega),yh]
structure bM where
 recs:List (List cZ)
 funcs:List i7
 imps:List Rx
 ints:List Int
 texts:List ByteArray
def fI(m:bM):Bool:=
 decide (m.recs.length≤8)&&(m.recs.all (fO m.recs.length 6)&&(decide (1≤m.funcs.length)&&(decide (m.funcs.length≤8)&&(m.funcs.all (BG m.recs.length)&&
  (decide (m.imps.length ≤ 8) && (m.imps.all (Ln m.recs.length) && (decide (m.ints.length ≤ 16) && (decide (m.texts.length ≤ 16) && m.texts.all fun s => decide (s.size ≤ 32)))))))))
theorem Ui(l:List ByteArray):(!l.any λs=>decide (s.size>32))=l.all λs=>decide (s.size≤32):=by
 rw[<-BL];congr 2;funext s;by_cases h:s.size>32
 ·rw[decide_eq_true h,decide_eq_false (by omega)];rfl
 ·rw[decide_eq_false h,decide_eq_true (by omega)];rfl
theorem TF(n:Nat)(m:bM)(hn:100≤n):qba n m.recs m.funcs m.imps m.ints m.texts=some (fI m):=by
 unfold qba fI;rw[aD m.recs,aD m.funcs,aD m.imps,aD m.ints,aD m.texts];by_cases N:m.recs.length≤8
 ·rw[decide_eq_true (by omega:(m.recs.length:Int)≤8),yg,decide_eq_true N,PB n m.recs _ (by omega) hn,yb,BL,yo2];cases m.recs.all (fO m.recs.length 6)with
  |false=>rfl
  |true=>
   rw[yg,yo2];by_cases O:1≤m.funcs.length
   ·rw[decide_eq_true (by omega:(m.funcs.length:Int)≥1),yg,decide_eq_true O,yo2];by_cases H:m.funcs.length≤8
    ·rw[decide_eq_true (by omega:(m.funcs.length:Int)≤8),yg,decide_eq_true H,SE n m.funcs _ (by omega) hn,yb,BL,yo2];cases m.funcs.all (BG m.recs.length)with
     |false=>rfl
     |true=>
      rw[yg,yo2];by_cases J:m.imps.length≤8
      ·rw[decide_eq_true (by omega:(m.imps.length:Int)≤8),yg,decide_eq_true J,Oe n m.imps _ (by omega) hn,yb,BL,yo2];cases m.imps.all (Ln m.recs.length)with
       |false=>rfl
       |true=>
        rw[yg,yo2];by_cases M:m.ints.length≤16
        ·rw[decide_eq_true (by omega:(m.ints.length:Int)≤16),yg,decide_eq_true M,yo2];by_cases K:m.texts.length≤16
         ·rw[decide_eq_true (by omega:(m.texts.length:Int)≤16),yg,decide_eq_true K,yo2,Nh n m.texts (by omega) hn,yb,Ui]
         ·rw[decide_eq_false (by omega: ¬(m.texts.length:Int)≤16),yh,decide_eq_false K];rfl
        ·rw[decide_eq_false (by omega: ¬(m.ints.length:Int)≤16),yh,decide_eq_false M];rfl
      ·rw[decide_eq_false (by omega: ¬(m.imps.length:Int)≤8),yh,decide_eq_false J];rfl
    ·rw[decide_eq_false (by omega: ¬(m.funcs.length:Int)≤8),yh,decide_eq_false H];rfl
   ·rw[decide_eq_false (by omega: ¬(m.funcs.length:Int)≥1),yh,decide_eq_false O];rfl
 ·rw[decide_eq_false (by omega: ¬(m.recs.length:Int)≤8),yh,decide_eq_false N];rfl
end Sx
end
section
namespace Sx
open Go Go.Ab
def Pz(l:List cZ):Prop:= ∀t∈l,U0 t
structure Rj (m:bM):Prop where
 recs: ∀l∈m.recs,Pz l
 funcs: ∀f∈m.funcs,Pz f.1/\U0 (f.2.1,f.2.2.1)/\Pz f.2.2.2.1
 imps: ∀i∈m.imps,Pz i.1/\U0 (i.2.1,i.2.2)
 ints: ∀v∈m.ints,0≤v/\v≤18446744073709551615
def iZ(l:List cZ):List Int:=eV l.length++l.flatMap Fx
theorem jS(l:List cZ):(iZ l).length≤11+22*l.length:=by
 have:=cI l.length;have:=fY Fx 22 l λt _=>oK t;rw[iZ,yi];omega
def JL(f:i7):List Int:=iZ f.1++Fx (f.2.1,f.2.2.1)++iZ f.2.2.2.1++eV f.2.2.2.2.length++f.2.2.2.2.flatMap Fy
def Jo(i:Rx):List Int:=iZ i.1++Fx (i.2.1,i.2.2)
def N6(s:ByteArray):List Int:=eV s.size++dZ s
def jC{α:Type}(f:α->List Int)(l:List α):List Int:=eV l.length++l.flatMap f
def TR(l:List (List Int)):List Int:=jC (λp=>eV p.length++p) l
def Dp(m:bM):List Int:=TR [jC iZ m.recs,jC JL m.funcs,jC Jo m.imps,jC (λv=>Ky 8 v.toNat) m.ints,jC N6 m.texts]
theorem wD(n k:Nat)(hk:k≤4294967000)(hn:20≤n):qm n (k:Int)=some (eV k):=by
 unfold qm;have:=cI k;rw[qN (by omega) (by omega),qcc_eq n k (by omega) hn,yb,cV (by omega),yg]
theorem Da(n k:Nat)(H:List Int)(hk:k≤4294967000)(hm:H.length≤4294900000)(hn:20≤n):qd n (k:Int) H=some (H++eV k):=by
 unfold qd;have:=cI k;rw[qN (by omega) (by omega),qcc_eq n k (by omega) hn,yb,cV (by rw[yi];omega),yg]
theorem zP(n:Nat)(l:List cZ)(H:List Int)(M:Pz l)(hl:l.length≤100)(hm:H.length≤4294000000)(hn:200≤n):qo n l H=some (H++iZ l):=by
 unfold qo;have hv:=cI l.length;rw[aD,Da n _ H (by omega) (by omega) (by omega),yb];have h:=f5 (B:=λs=>qo_B0 n s.1.1 s.1.2.1 s.1.2.2 s.2) (xs:=l) (mk:=λi a=>((l,((l.length:Int),(i:Int))),a)) (f:=Fx) (e:=id) (c:=22) (m0:=H++eV l.length) (cap:=4294967296)
  (λx _=>oK x) (by rw[yi];omega) (λi a x K J ha=>?_) (λa=>?_) (n:=n) (by omega)
 ·rw[show qo_W0 n ((l,((l.length:Int),0)),H++eV l.length)=_ from h,yb,id,ya3];rfl
 ·have hi:=bH K;show qo_B0 n l (l.length:Int) (i:Int) a=_;unfold qo_B0;rw[decide_eq_true (by omega),yg,aP,K,yb,qbx_eq n x (M x J) (by omega),yb,cV (by rw[yi];omega),yg,bU (by omega)]
 ·show qo_B0 n l (l.length:Int) (l.length:Int) a=_;unfold qo_B0;rw[decide_eq_false (by omega),yh];rfl
theorem lF{recs H:Int}{l:List cZ}(h:fO recs H l=true):(l.length:Int)≤H:=by
 simp only[fO,yc,decide_eq_true_eq]at h;exact h.1
theorem Om(n:Nat)(m:bM)(M:Rj m)(hf:fI m=true)(hn:200≤n):qae n m.recs m.funcs m.imps m.ints m.texts=some (jC iZ m.recs)/\(jC iZ m.recs).length≤2000:=by
 simp only[fI,yc,decide_eq_true_eq,yf1]at hf;obtain⟨h1,K,_⟩:=hf;have hc: ∀x∈m.recs,(iZ x).length≤143:=λx J=>by
  have:=jS x;have:=lF (K x J);omega
 have hv:=cI m.recs.length;refine⟨?_,by have:=fY iZ 143 m.recs hc;rw[jC,yi];omega⟩;unfold qae;rw[aD,wD n _ (by omega) (by omega),yb];have h:=f5 (B:=λs=>qae_B0 n s.1.1 s.1.2.1 s.1.2.2 s.2) (xs:=m.recs) (mk:=λi a=>((m.recs,((m.recs.length:Int),(i:Int))),a)) (f:=iZ) (e:=id) (c:=143) (m0:=eV m.recs.length) (cap:=4000)
  hc (by omega) (λi a x J H ha=>?_) (λa=>?_) (n:=n) (by omega)
 ·rw[show qae_W0 n ((m.recs,((m.recs.length:Int),0)),eV m.recs.length)=_ from h,yb];rfl
 ·have hi:=bH J;show qae_B0 n m.recs (m.recs.length:Int) (i:Int) a=_;unfold qae_B0;have:=lF (K x H);rw[decide_eq_true (by omega),yg,aP,J,yb,zP n x a (M.recs x H) (by omega) (by omega) hn,yb,bU (by omega)]
 ·show qae_B0 n m.recs (m.recs.length:Int) (m.recs.length:Int) a=_;unfold qae_B0;rw[decide_eq_false (by omega),yh];rfl
theorem GB{recs:Int}{f:i7}(h:BG recs f=true):f.1.length≤4/\f.2.2.2.1.length≤8/\1≤f.2.2.2.2.length/\f.2.2.2.2.length≤64/\(JL f).length≤1900:=by
 simp only[BG,yc,decide_eq_true_eq]at h;obtain⟨J,_,H,K,M,_⟩:=h;have J:=lF J;have H:=lF H;have:=jS f.1;have:=jS f.2.2.2.1;have:=oK (f.2.1,f.2.2.1);have:=cI f.2.2.2.2.length;have:=fY Fy 23 f.2.2.2.2 λi _=>FY i;refine⟨by omega,by omega,K,M,?_⟩;simp only[JL,yi];omega
theorem JE(n:Nat)(m:bM)(ho:Rj m)(hf:fI m=true)(hn:200≤n):qt n m.recs m.funcs m.imps m.ints m.texts=some (jC JL m.funcs)/\(jC JL m.funcs).length≤20000:=by
 simp only[fI,yc,decide_eq_true_eq,yf1]at hf;obtain⟨_,_,h0,h1,W,_⟩:=hf;have hc: ∀x∈m.funcs,(JL x).length≤1900:=λx M=>(GB (W x M)).2.2.2.2;have hv:=cI m.funcs.length;refine⟨?_,by have:=fY JL 1900 m.funcs hc;rw[jC,yi];omega⟩;unfold qt;rw[aD,wD n _ (by omega) (by omega),yb];have h:=f5 (B:=λs=>qt_B0 n s.1.1 s.1.2.1 s.1.2.2 s.2) (xs:=m.funcs) (mk:=λi a=>((m.funcs,((m.funcs.length:Int),(i:Int))),a)) (f:=JL) (e:=id) (c:=1900) (m0:=eV m.funcs.length) (cap:=40000)
  hc (by omega) (λi a x M J ha=>?_) (λa=>?_) (n:=n) (by omega)
 ·rw[show qt_W0 n ((m.funcs,((m.funcs.length:Int),0)),eV m.funcs.length)=_ from h,yb];rfl
 ·have hi:=bH M;obtain⟨l1,l2,l3,l4,_⟩:=GB (W x J);obtain⟨o1,V,Z⟩:=ho.funcs x J;obtain⟨N,k,O,K,H⟩:=x;have t1:=jS N;have t2:=jS K;have t3:=oK (k,O);have t4:=cI H.length;have t5:=fY Fy 23 H λi _=>FY i;simp only at l1 l2 l3 l4 o1 V Z;show qt_B0 n m.funcs (m.funcs.length:Int) (i:Int) a=_;unfold qt_B0;rw[decide_eq_true (by omega),yg,aP,M,yb];simp only[]
  rw[zP n N a o1 (by omega) (by omega) hn,yb,qbx_eq n (k,O) V (by omega),yb,cV (by simp only[yi];omega),yg,zP n K _ Z (by omega) (by simp only[yi];omega) hn,yb,
   aD,Da n _ _ (by omega) (by simp only[yi];omega) (by omega),yb]
  have U:=f5 (B:=λs=>qt_B2 n s.1.1 s.1.2.1 s.1.2.2.1 s.1.2.2.2.1 s.1.2.2.2.2.1 s.1.2.2.2.2.2 s.2) (xs:=H) (mk:=λj b=>((m.funcs,((m.funcs.length:Int),((i:Int),(H,((H.length:Int),(j:Int)))))),b)) (f:=Fy)
   (e:=λb=>((m.funcs,((m.funcs.length:Int),(i:Int))),b)) (c:=23) (m0:=a++iZ N++Fx (k,O)++iZ K++eV H.length) (cap:=4294967296) (λy _=>FY y) (by simp only[yi];omega) (λj b y Y hmy hb=>?_) (λb=>?_) (n:=n) (by omega)
  ·rw[show qt_W2 n ((m.funcs,((m.funcs.length:Int),((i:Int),(H,((H.length:Int),0))))),a++iZ N++Fx (k,O)++iZ K++eV H.length)=_ from U,yb];simp only[];rw[bU (by omega)];simp only[JL,ya3]
  ·have hj:=bH Y;show qt_B2 n m.funcs (m.funcs.length:Int) (i:Int) H (H.length:Int) (j:Int) b=_;unfold qt_B2;rw[decide_eq_true (by omega),yg,aP,Y,yb,qca_eq n y (by omega),yb,cV (by rw[yi];omega),yg,bU (by omega)]
  ·show qt_B2 n m.funcs (m.funcs.length:Int) (i:Int) H (H.length:Int) (H.length:Int) b=_;unfold qt_B2;rw[decide_eq_false (by omega),yh]
 ·show qt_B0 n m.funcs (m.funcs.length:Int) (m.funcs.length:Int) a=_;unfold qt_B0;rw[decide_eq_false (by omega),yh];rfl
theorem H3{recs:Int}{f:Rx}(h:Ln recs f=true):f.1.length≤4/\(Jo f).length≤130:=by
 simp only[Ln,yc]at h;have h1:=lF h.1;have:=jS f.1;have:=oK (f.2.1,f.2.2);refine⟨by omega,?_⟩;rw[Jo,yi];omega
theorem Nr(n:Nat)(m:bM)(V:Rj m)(hf:fI m=true)(hn:200≤n):qad n m.recs m.funcs m.imps m.ints m.texts=some (jC Jo m.imps)/\(jC Jo m.imps).length≤2000:=by
 simp only[fI,yc,decide_eq_true_eq,yf1]at hf;obtain⟨_,_,_,_,_,h1,M,_⟩:=hf;have hc: ∀x∈m.imps,(Jo x).length≤130:=λx J=>(H3 (M x J)).2;have hv:=cI m.imps.length;refine⟨?_,by have:=fY Jo 130 m.imps hc;rw[jC,yi];omega⟩;unfold qad;rw[aD,wD n _ (by omega) (by omega),yb];have h:=f5 (B:=λs=>qad_B0 n s.1.1 s.1.2.1 s.1.2.2 s.2) (xs:=m.imps) (mk:=λi a=>((m.imps,((m.imps.length:Int),(i:Int))),a)) (f:=Jo) (e:=id) (c:=130) (m0:=eV m.imps.length) (cap:=40000)
  hc (by omega) (λi a x J H ha=>?_) (λa=>?_) (n:=n) (by omega)
 ·rw[show qad_W0 n ((m.imps,((m.imps.length:Int),0)),eV m.imps.length)=_ from h,yb];rfl
 ·have hi:=bH J;obtain⟨W,_⟩:=H3 (M x H);obtain⟨O,K⟩:=V.imps x H;obtain⟨N,k,U⟩:=x;have t1:=jS N;have t3:=oK (k,U);simp only at W O K;show qad_B0 n m.imps (m.imps.length:Int) (i:Int) a=_;unfold qad_B0;rw[decide_eq_true (by omega),yg,aP,J,yb];simp only[];rw[zP n N a O (by omega) (by omega) hn,yb,qbx_eq n (k,U) K (by omega),yb,cV (by simp only[yi];omega),yg,bU (by omega)];simp only[Jo,ya3]
 ·show qad_B0 n m.imps (m.imps.length:Int) (m.imps.length:Int) a=_;unfold qad_B0;rw[decide_eq_false (by omega),yh];rfl
theorem Tn(n:Nat)(v:Nat)(hv:v<18446744073709551616)(hn:20≤n):qbw n (v:Int) 8=some (Ky 8 v):=by
 have h:=f5 (B:=λs=>qbw_B0 n s.1.1 s.1.2.1 s.1.2.2 s.2) (xs:=List.range 8) (mk:=λi a=>(((v:Int),((8:Int),(i:Int))),a)) (f:=λj=> [((v/256 ^ j%256:Nat):Int)]) (e:=id) (c:=1) (m0:= []) (cap:=100)
  (λx _=>by simp) (by simp) (λi a x H K O=>?_) (λa=>?_) (n:=n) (by simp;omega)
 ·unfold qbw;rw[show qbw_W0 n (((v:Int),((TH (L6 8 0) 8),0)),[])=_ from h,yb];have e: ∀l:List Nat,l.flatMap (λj=> [((v/256 ^ j%256:Nat):Int)])=l.map λj=>((v/256 ^ j%256:Nat):Int):=by
   intro l
   induction l with
   |nil=>rfl
   |cons x l M=>rw[List.flatMap_cons,M];rfl
  rw[e];rfl
 ·have J:=bH H;rw[List.length_range]at J;rw[List.getElem?_range J]at H;obtain rfl:=ya H;show qbw_B0 n (v:Int) 8 (i:Int) a=_;unfold qbw_B0;have N:jT .u8 (Qk .u64 (v:Int) (QU .i64 8 (i:Int)))=((v/256 ^ i%256:Nat):Int):=by
   rw[K0 (by omega) (by omega),Fi]
   show((v:Int).fdiv (2 ^ (min (8*(i:Int)).toNat 64)))%256=_
   rw[show min (8*(i:Int)).toNat 64=8*i by omega,show((2:Int) ^ (8*i))=((256 ^ i:Nat):Int) by rw[show(256:Nat)=2 ^ 8 from rfl,<-Nat.pow_mul];simp,
    Int.fdiv_eq_ediv_of_nonneg _ (Int.natCast_nonneg _),<-Int.natCast_ediv]
   omega
  rw[decide_eq_true (by omega),yg,N,K0 (by omega) (by omega),decide_eq_true (by omega),yg,cV (by simp at O⊢;omega),yg,bU (by omega)]
 ·show qbw_B0 n (v:Int) 8 8 a=_;rfl
theorem Nk(n:Nat)(m:bM)(K:Rj m)(hf:fI m=true)(hn:200≤n):qac n m.recs m.funcs m.imps m.ints m.texts=some (jC (λv=>Ky 8 v.toNat) m.ints)/\(jC (λv:Int=>Ky 8 v.toNat) m.ints).length≤2000:=by
 simp only[fI,yc,decide_eq_true_eq,yf1]at hf;obtain⟨_,_,_,_,_,_,_,h1,_⟩:=hf;have hc: ∀x∈m.ints,(Ky 8 x.toNat).length≤8:=λx J=>by rw[GN];omega
 have hv:=cI m.ints.length;refine⟨?_,by have:=fY (λv:Int=>Ky 8 v.toNat) 8 m.ints hc;rw[jC,yi];omega⟩;unfold qac;rw[aD,wD n _ (by omega) (by omega),yb];have h:=f5 (B:=λs=>qac_B0 n s.1.1 s.1.2.1 s.1.2.2 s.2) (xs:=m.ints) (mk:=λi a=>((m.ints,((m.ints.length:Int),(i:Int))),a)) (f:=λv=>Ky 8 v.toNat) (e:=id) (c:=8) (m0:=eV m.ints.length) (cap:=40000)
  hc (by omega) (λi a x J H M=>?_) (λa=>?_) (n:=n) (by omega)
 ·rw[show qac_W0 n ((m.ints,((m.ints.length:Int),0)),eV m.ints.length)=_ from h,yb];rfl
 ·have hi:=bH J;have N:=K.ints x H;obtain⟨u,rfl⟩: ∃u:Nat,x=(u:Int):=⟨x.toNat,by omega⟩
  show qac_B0 n m.ints (m.ints.length:Int) (i:Int) a=_;unfold qac_B0;rw[GN]at M;rw[decide_eq_true (by omega),yg,aP,J,yb,Tn n u (by omega) (by omega),yb,cV (by rw[yi,GN];omega),yg,bU (by omega),yy]
 ·show qac_B0 n m.ints (m.ints.length:Int) (m.ints.length:Int) a=_;unfold qac_B0;rw[decide_eq_false (by omega),yh];rfl
theorem Au(s:ByteArray):(dZ s).length=s.size:=by
 unfold dZ;rw[yk1,yd2];rfl
theorem Sr(n:Nat)(m:bM)(hf:fI m=true)(hn:200≤n):qal n m.recs m.funcs m.imps m.ints m.texts=some (jC N6 m.texts)/\(jC N6 m.texts).length≤2000:=by
 simp only[fI,yc,decide_eq_true_eq,yf1]at hf;obtain⟨_,_,_,_,_,_,_,_,h1,K⟩:=hf;have hc: ∀x∈m.texts,(N6 x).length≤43:=λx J=>by
  have:=cI x.size;have:=K x J;rw[N6,yi,Au];omega
 have hv:=cI m.texts.length;refine⟨?_,by have:=fY N6 43 m.texts hc;rw[jC,yi];omega⟩;unfold qal;rw[aD,wD n _ (by omega) (by omega),yb];have h:=f5 (B:=λs=>qal_B0 n s.1.1 s.1.2.1 s.1.2.2 s.2) (xs:=m.texts) (mk:=λi a=>((m.texts,((m.texts.length:Int),(i:Int))),a)) (f:=N6) (e:=id) (c:=43) (m0:=eV m.texts.length) (cap:=40000)
  hc (by omega) (λi a x J H ha=>?_) (λa=>?_) (n:=n) (by omega)
 ·rw[show qal_W0 n ((m.texts,((m.texts.length:Int),0)),eV m.texts.length)=_ from h,yb];rfl
 ·have hi:=bH J;have hs:=K x H;have M:=cI x.size;show qal_B0 n m.texts (m.texts.length:Int) (i:Int) a=_;unfold qal_B0;rw[decide_eq_true (by omega),yg,aP,J,yb,show K5 x=((x.size:Nat):Int)from rfl,Da n _ a (by omega) (by omega) (by omega),yb,cV (by simp only[yi,Au];omega),yg,bU (by omega),ya3];rfl
 ·show qal_B0 n m.texts (m.texts.length:Int) (m.texts.length:Int) a=_;unfold qal_B0;rw[decide_eq_false (by omega),yh];rfl
theorem Tx(n:Nat)(l:List (List Int))(hl:l.length≤100)(hc: ∀x∈l,x.length≤1000000)(hn:200≤n):qbq n l=some (TR l):=by
 have hv:=cI l.length;have K: ∀x∈l,(eV x.length++x).length≤1000011:=λx J=>by
  have:=cI x.length;have:=hc x J;rw[yi];omega
 unfold qbq;rw[aD,qN (by omega) (by omega),qcc_eq n l.length (by omega) (by omega),yb];have h:=f5 (B:=λs=>qbq_B0 n s.1.1 s.1.2.1 s.1.2.2 s.2) (xs:=l) (mk:=λi a=>((l,((l.length:Int),(i:Int))),a)) (f:=λp=>eV p.length++p) (e:=id) (c:=1000011) (m0:=eV l.length) (cap:=200000000)
  K (by omega) (λi a x J H M=>?_) (λa=>?_) (n:=n) (by omega)
 ·rw[show qbq_W0 n ((l,((l.length:Int),0)),eV l.length)=_ from h,yb];rfl
 ·have hi:=bH J;have N:=cI x.length;have O:=hc x H;rw[yi]at M;show qbq_B0 n l (l.length:Int) (i:Int) a=_;unfold qbq_B0;rw[decide_eq_true (by omega),yg,aP,J,yb,aD,qN (by omega) (by omega),qcc_eq n x.length (by omega) (by omega),yb,cV (by rw[yi];omega),yg,cV (by simp only[yi];omega),yg,bU (by omega),ya3]
 ·show qbq_B0 n l (l.length:Int) (l.length:Int) a=_;unfold qbq_B0;rw[decide_eq_false (by omega),yh];rfl
theorem QP(n:Nat)(m:bM)(H:Rj m)(hn:200≤n):qah n m.recs m.funcs m.imps m.ints m.texts=some (if fI m=true then(Dp m,0)else([],2)):=by
 unfold qah;rw[TF n m (by omega),yb];cases hf:fI m with
 |false=>rfl
 |true=>
  obtain⟨O,l1⟩:=Om n m H hf hn;obtain⟨N,l2⟩:=JE n m H hf hn;obtain⟨U,l3⟩:=Nr n m H hf hn;obtain⟨M,l4⟩:=Nk n m H hf hn;obtain⟨K,l5⟩:=Sr n m hf hn;rw[yf2,yh,O,yb,N,yb,U,yb,M,yb,K,yb,Tx n _ (by simp) ?_ hn,yb,if_pos rfl]
  ·rfl
  ·intro x J;simp only[yj1,List.not_mem_nil,or_false]at J;rcases J with rfl|rfl|rfl|rfl|rfl<;>omega
end Sx
end
section
namespace Sx
open Go Go.Ab
structure Uj (m:bM):Prop where
 n1:m.recs.length≤200
 n2:m.funcs.length≤200
 n3:m.imps.length≤200
 n4:m.ints.length≤200
 n5:m.texts.length≤200
 recs: ∀l∈m.recs,l.length≤3000
 funcs: ∀f∈m.funcs,f.1.length≤3000/\f.2.2.2.1.length≤3000/\f.2.2.2.2.length≤3000
 imps: ∀i∈m.imps,i.1.length≤3000
 texts: ∀s∈m.texts,s.size≤3000
abbrev fC(m:bM):List (List cZ)×List i7×List Rx×List Int×List ByteArray:=(m.recs,(m.funcs,(m.imps,(m.ints,m.texts))))
end Sx
end
section
namespace Sx
open Go Go.Ab
end Sx
end
section
namespace Sx
open Go Go.Ab
structure UB (m:bM):Prop where
 n1:m.recs.length≤140737488351232
 n2:m.funcs.length≤140737488351232
 n3:m.imps.length≤140737488351232
 n4:m.ints.length≤140737488351232
 n5:m.texts.length≤140737488351232
 recs: ∀l∈m.recs,l.length≤140737488351232
 funcs: ∀f∈m.funcs,f.1.length≤140737488351232/\f.2.2.2.1.length≤140737488351232/\f.2.2.2.2.length≤140737488351232
 imps: ∀i∈m.imps,i.1.length≤140737488351232
 texts: ∀s∈m.texts,s.size≤140737488351232
theorem Ci{S X A:Type}{B:S->Option (S⊕X)}{xs:List A}{mk:Nat->Int->S}{f:A->Nat}{e:Int->X}{c:Nat}{base:Int}(hb:0≤base)(hc: ∀x∈xs,f x≤c)(U:base+(c:Int)*(xs.length:Int)≤9000000000000000000)
  (hs: ∀i a x,xs[i]?=some x->x∈xs->0≤a->a+(f x:Int)≤9000000000000000000->B (mk i a)=some (.inl (mk (i+1) (a+(f x:Int))))) (Y: ∀a,B (mk xs.length a)=some (.inr (e a))) {n:Nat} (hn:xs.length<n):
  ∃a,aY B n (mk 0 base)=some (e a)/\base≤a/\a≤base+(c:Int)*(xs.length:Int)/\∀x∈xs,(f x:Int)≤a:=by
 have h:=Cl (B:=B) (xs:=xs) (mk:=mk) (I:=λi a=>base≤a/\a≤base+(c:Int)*(i:Int)/\∀x∈xs.take i,(f x:Int)≤a) (Q:=λy=> ∃a,y=e a/\base≤a/\a≤base+(c:Int)*(xs.length:Int)/\∀x∈xs,(f x:Int)≤a)
  (λi a x N hI=>?_) (λa hI=>?_) xs.length 0 n base (by omega) ⟨Int.le_refl _,by simp,by simp⟩ hn
 ·obtain⟨y,O,a,rfl,K⟩:=h;exact⟨a,O,K⟩
 ·have W:=bH N;have hm:=yk N;have Z:=hc x hm;obtain⟨O,K,M⟩:=hI;have V:(c:Int)*(i:Int)+(c:Int)≤(c:Int)*(xs.length:Int):=by
   have:(c*(i+1):Nat)≤c*xs.length:=Nat.mul_le_mul_left c W;rw[Nat.mul_succ]at this;have h:=Int.ofNat_le.2 this;simpa using h
  have J:(c:Int)*((i+1:Nat):Int)=(c:Int)*(i:Int)+(c:Int):=by
   rw[Int.natCast_add,Int.mul_add];simp
  refine .inl ⟨_,hs i a x N hm (by omega) (by omega),by omega,by rw[J];omega,λz H=>?_⟩;rw[yp3,N,yn1]at H;rcases H with H|H
  ·have:=M z H;omega
  ·simp at H;subst H;omega
 ·obtain⟨O,K,M⟩:=hI;rw[yq3]at M;exact⟨_,Y a,a,rfl,O,K,M⟩
theorem jA{a b:Int}(h1:0≤a)(h2:0≤b)(h3:a+b≤9000000000000000000):aX .i64 a b=a+b:=cL (by omega) (by omega)
theorem Mw(n:Nat)(m:bM)(K:UB m)(hn:6000≤n): ∃b,qas n m.recs m.funcs m.imps m.ints m.texts=some b/\(b=true->Uj m):=by
 unfold qas;have n1:=K.n1;have n2:=K.n2;have n3:=K.n3;have n4:=K.n4;have n5:=K.n5;have hs:aX .i64 (aX .i64 (aX .i64 (aX .i64 (aC m.recs) (aC m.funcs)) (aC m.imps)) (aC m.ints)) (aC m.texts)=((m.recs.length+m.funcs.length+m.imps.length+m.ints.length+m.texts.length:Nat):Int):=by
  simp only[aD];rw[jA (b:=((m.funcs.length:Nat):Int)) (by omega) (by omega) (by omega),jA (b:=((m.imps.length:Nat):Int)) (by omega) (by omega) (by omega),jA (b:=((m.ints.length:Nat):Int)) (by omega) (by omega) (by omega),jA (b:=((m.texts.length:Nat):Int)) (by omega) (by omega) (by omega)];omega
 rw[hs];by_cases W:m.recs.length+m.funcs.length+m.imps.length+m.ints.length+m.texts.length≤200
 case neg=>
  rw[decide_eq_true (by omega),yg];exact⟨false,rfl,λh=>by cases h⟩
 rw[decide_eq_false (by omega),yh];obtain⟨a1,e1,l1,u1,p1⟩:=Ci (B:=λs=>qas_B0 n s.1.1 s.1.2 s.2.1 s.2.2.1 s.2.2.2.1 s.2.2.2.2.1 s.2.2.2.2.2) (xs:=m.recs) (mk:=λi (a:Int)=>((a,(i:Int)),fC m)) (f:=List.length) (e:=λa=>(a,fC m)) (c:=140737488351232)
  (base := ((m.recs.length + m.funcs.length + m.imps.length + m.ints.length + m.texts.length : Nat) : Int)) (by omega) K.recs (by omega) (fun i a x J hm M H => by
   have O:=bH J;show qas_B0 n a (i:Int) m.recs m.funcs m.imps m.ints m.texts=_;unfold qas_B0
   rw[aD,decide_eq_true (by omega),yg,aP,J,yb,aD,jA M (by omega) H,bU (by omega)]) (λa=>by
   show qas_B0 n a (m.recs.length:Int) m.recs m.funcs m.imps m.ints m.texts=_;unfold qas_B0
   rw[aD,decide_eq_false (by omega),yh]) (n:=n) (by omega)
 rw[show qas_W0 n ((((m.recs.length+m.funcs.length+m.imps.length+m.ints.length+m.texts.length:Nat):Int),0),(m.recs,(m.funcs,(m.imps,(m.ints,m.texts)))))=_ from e1,yb];obtain⟨U,e2,l2,u2,p2⟩:=Ci (B:=λs=>qas_B2 n s.1.1 s.1.2 s.2.1 s.2.2.1 s.2.2.2.1 s.2.2.2.2.1 s.2.2.2.2.2) (xs:=m.funcs) (mk:=λi (a:Int)=>((a,(i:Int)),fC m)) (f:=λf=>f.1.length+f.2.2.2.1.length+f.2.2.2.2.length) (e:=λa=>(a,fC m)) (c:=422212465053696)
  (base := a1) (by omega) (fun f hf => by obtain ⟨h1, h2, h3⟩ := K.funcs f hf; omega) (by omega) (fun i a x J hm M H => by
   have O:=bH J;show qas_B2 n a (i:Int) m.recs m.funcs m.imps m.ints m.texts=_;unfold qas_B2;rw[aD,decide_eq_true (by omega),yg,aP,J];simp only[yb,aD];rw[jA (b:=((x.1.length:Nat):Int)) M (by omega) (by omega),jA (b:=((x.2.2.2.1.length:Nat):Int)) (by omega) (by omega) (by omega),jA (b:=((x.2.2.2.2.length:Nat):Int)) (by omega) (by omega) (by omega),bU (by omega)];have:a+((x.1.length:Nat):Int)+((x.2.2.2.1.length:Nat):Int)+((x.2.2.2.2.length:Nat):Int)=a+((x.1.length+x.2.2.2.1.length+x.2.2.2.2.length:Nat):Int):=by omega
   rw[this]) (λa=>by
   show qas_B2 n a (m.funcs.length:Int) m.recs m.funcs m.imps m.ints m.texts=_;unfold qas_B2
   rw[aD,decide_eq_false (by omega),yh]) (n:=n) (by omega)
 rw[show qas_W2 n ((a1,0),(m.recs,(m.funcs,(m.imps,(m.ints,m.texts)))))=_ from e2,yb];obtain⟨V,e3,l3,u3,Y⟩:=Ci (B:=λs=>qas_B4 n s.1.1 s.1.2 s.2.1 s.2.2.1 s.2.2.2.1 s.2.2.2.2.1 s.2.2.2.2.2) (xs:=m.imps) (mk:=λi (a:Int)=>((a,(i:Int)),fC m)) (f:=λf=>f.1.length) (e:=λa=>(a,fC m)) (c:=140737488351232)
  (base := U) (by omega) K.imps (by omega) (fun i a x J hm M H => by
   have O:=bH J;show qas_B4 n a (i:Int) m.recs m.funcs m.imps m.ints m.texts=_;unfold qas_B4
   rw[aD,decide_eq_true (by omega),yg,aP,J,yb,aD,jA M (by omega) H,bU (by omega)]) (λa=>by
   show qas_B4 n a (m.imps.length:Int) m.recs m.funcs m.imps m.ints m.texts=_;unfold qas_B4
   rw[aD,decide_eq_false (by omega),yh]) (n:=n) (by omega)
 rw[show qas_W4 n ((U,0),(m.recs,(m.funcs,(m.imps,(m.ints,m.texts)))))=_ from e3,yb];obtain⟨a4,e4,l4,u4,Z⟩:=Ci (B:=λs=>qas_B6 n s.1.1 s.1.2 s.2.1 s.2.2.1 s.2.2.2.1 s.2.2.2.2.1 s.2.2.2.2.2) (xs:=m.texts) (mk:=λi (a:Int)=>((a,(i:Int)),fC m)) (f:=ByteArray.size) (e:=λa=>(a,fC m)) (c:=140737488351232)
  (base := V) (by omega) K.texts (by omega) (fun i a x J hm M H => by
   have O:=bH J;show qas_B6 n a (i:Int) m.recs m.funcs m.imps m.ints m.texts=_;unfold qas_B6
   rw[aD,decide_eq_true (by omega),yg,aP,J,yb,show K5 x=((x.size:Nat):Int)from rfl,jA M (by omega) H,bU (by omega)]) (λa=>by
   show qas_B6 n a (m.texts.length:Int) m.recs m.funcs m.imps m.ints m.texts=_;unfold qas_B6
   rw[aD,decide_eq_false (by omega),yh]) (n:=n) (by omega)
 rw[show qas_W6 n ((V,0),(m.recs,(m.funcs,(m.imps,(m.ints,m.texts)))))=_ from e4,yb];refine⟨_,rfl,λh=>?_⟩;have N:=of_decide_eq_true h;simp only at N;refine⟨by omega,by omega,by omega,by omega,by omega,λx J=>?_,λx J=>?_,λx J=>?_,λx J=>?_⟩
 ·have:=p1 x J;omega
 ·have:=p2 x J;omega
 ·have:=Y x J;omega
 ·have:=Z x J;omega
noncomputable def qI(m:bM)(f:i7)(i:AM):Bool:=(n9 0 m.recs m.funcs m.imps m.ints m.texts f.1 f.2.1 f.2.2.1 f.2.2.2.1 f.2.2.2.2 i.1 i.2.1 i.2.2).getD false
theorem sE{i:AM}(h:oY i=false):0≤i.2.1/\i.2.1≤255/\0≤i.2.2/\i.2.2≤255:=by
 have:=of_decide_eq_false h;omega
theorem kO{β:Type}{c:Bool}{a b:Option β}(J: ∃x,a=some x)(H: ∃x,b=some x): ∃x,(bif c then a else b)=some x:=by cases c;exact H;exact J
theorem Sc(n:Nat)(m:bM)(f:i7)(i:AM)(J:oY i=false):n9 n m.recs m.funcs m.imps m.ints m.texts f.1 f.2.1 f.2.2.1 f.2.2.2.1 f.2.2.2.2 i.1 i.2.1 i.2.2=some (qI m f i):=by
 obtain⟨h1,_,_,_⟩:=sE J;have K: ∃b,n9 n m.recs m.funcs m.imps m.ints m.texts f.1 f.2.1 f.2.2.1 f.2.2.2.1 f.2.2.2.2 i.1 i.2.1 i.2.2=some b:=by
  have M:(bif decide (i.2.1<aC m.recs)then(aM m.recs i.2.1).bind λx=>some (decide (i.2.2<aC x))else some false)=some (bif decide (i.2.1<aC m.recs)then decide (i.2.2<aC ((aM m.recs i.2.1).getD []))else false):=by
   cases H:decide (i.2.1<aC m.recs)with
   |false=>rfl
   |true=>
    have H:=of_decide_eq_true H;rw[aD]at H;obtain⟨u,hu⟩: ∃u:Nat,i.2.1=(u:Int):=⟨i.2.1.toNat,by omega⟩
    rw[hu,aP,yf (by omega)];rfl
  unfold n9;rw[M];exact kO ⟨_,rfl⟩ (kO ⟨_,rfl⟩ (kO ⟨_,rfl⟩ (kO ⟨_,rfl⟩ (kO ⟨_,rfl⟩ (kO ⟨_,rfl⟩ (kO ⟨_,rfl⟩ (kO ⟨_,rfl⟩ (kO ⟨_,rfl⟩ (kO ⟨_,rfl⟩ (kO ⟨_,rfl⟩ ⟨_,rfl⟩))))))))))
 obtain⟨b,J⟩:=K;have:qI m f i=b:=by
  unfold qI;rw[show n9 0 m.recs m.funcs m.imps m.ints m.texts f.1 f.2.1 f.2.2.1 f.2.2.2.1 f.2.2.2.2 i.1 i.2.1 i.2.2=some b from J];rfl
 rw[J,this]
theorem qbj_eq(n:Nat)(m:bM)(f:i7)(i:AM)(H:oY i=false):qbj n m.recs m.funcs m.imps m.ints m.texts f.1 f.2.1 f.2.2.1 f.2.2.2.1 f.2.2.2.2 i.1 i.2.1 i.2.2=some (qI m f i):=by
 rw[<-Sc n m f i H];rfl
def Eh(t:cZ):Bool:=t.1==1||t.1==5
theorem O1(n:Nat)(t:cZ):qbn n t.1 t.2=some (Eh t):=by
 unfold qbn Eh;cases t.1==1<;>rfl
noncomputable def Il(m:bM)(f:i7):Bool:=f.2.2.2.2.any (λi=>!qI m f i)||f.2.2.2.1.any (λt=>t.1==5)
def NC(i:Rx):Bool:=!Eh (i.2.1,i.2.2)||i.1.any λt=>!Eh t
noncomputable def dA(m:bM):Int:=if fI m=false then 2 else if m.funcs.any (Il m)=true then 1 else if m.imps.any NC=true then 1 else 0
theorem PZ(n:Nat)(m:bM)(f:i7)(M: ∀i∈f.2.2.2.2,oY i=false)(hl:f.2.2.2.2.length≤64)(hn:100≤n):
  qe n f.2.2.2.2 m.recs m.funcs m.imps m.ints m.texts f.1 f.2.1 f.2.2.1 f.2.2.2.1 f.2.2.2.2=some (f.2.2.2.2.any (λi=>!qI m f i),(fC m,f)):=by
 unfold qe qq;have h:=dF (B:=λs=>qq_B0 n s.1.1 s.1.2.1 s.1.2.2 s.2.1.1 s.2.1.2.1 s.2.1.2.2.1 s.2.1.2.2.2.1 s.2.1.2.2.2.2 s.2.2.1 s.2.2.2.1 s.2.2.2.2.1 s.2.2.2.2.2.1 s.2.2.2.2.2.2) (xs:=f.2.2.2.2) (mk:=λi=>((f.2.2.2.2,(aC f.2.2.2.2,(i:Int))),(fC m,f)))
  (p:=λi=>!qI m f i) (found:=λi x=>Sum.inl ((i:Int),(fC m,f))) (e:=Sum.inr (fC m,f)) (λi x J=>?_) ?_ f.2.2.2.2.length 0 n (by omega) (by omega)
 ·rw[yp2]at h;rcases h with ⟨K,k,x,_,_,H⟩|⟨K,H⟩
  ·rw[show qq_W0 n ((f.2.2.2.2,(aC f.2.2.2.2,0)),((m.recs,(m.funcs,(m.imps,(m.ints,m.texts)))),(f.1,(f.2.1,(f.2.2.1,(f.2.2.2.1,f.2.2.2.2))))))=_ from H,K];show some (decide ((k:Int)≥0),_)=_;rw[decide_eq_true (by omega)]
  ·rw[show qq_W0 n ((f.2.2.2.2,(aC f.2.2.2.2,0)),((m.recs,(m.funcs,(m.imps,(m.ints,m.texts)))),(f.1,(f.2.1,(f.2.2.1,(f.2.2.2.1,f.2.2.2.2))))))=_ from H,K];rfl
 ·have hi:=bH J;show qq_B0 n f.2.2.2.2 (aC f.2.2.2.2) (i:Int) m.recs m.funcs m.imps m.ints m.texts f.1 f.2.1 f.2.2.1 f.2.2.2.1 f.2.2.2.2=_;unfold qq_B0 qaz;rw[aD,decide_eq_true (by omega),yg,aP,J,yb,qbj_eq n m f x (M x (yk J)),yb,yb,bU (by omega)];cases qI m f x<;>rfl
 ·show qq_B0 n f.2.2.2.2 (aC f.2.2.2.2) (f.2.2.2.2.length:Int) m.recs m.funcs m.imps m.ints m.texts f.1 f.2.1 f.2.2.1 f.2.2.2.1 f.2.2.2.2=_;unfold qq_B0;rw[aD,decide_eq_false (by omega),yh]
theorem Tk(n:Nat)(l:List cZ)(hl:l.length≤64)(hn:100≤n):qi n l=some (l.any λt=>t.1==5):=by
 unfold qi qy;have h:=dF (B:=λs=>qy_B0 n s.1 s.2.1 s.2.2) (xs:=l) (mk:=λi=>(l,(aC l,(i:Int)))) (p:=λt=>t.1==5) (found:=λi x=>Sum.inl (i:Int)) (e:=Sum.inr ())
  (λi x K=>?_) ?_ l.length 0 n (by omega) (by omega)
 ·rw[yp2]at h;rcases h with ⟨J,k,x,_,_,H⟩|⟨J,H⟩
  ·rw[show qy_W0 n (l,(aC l,0))=some (Sum.inl (k:Int))from H,J];show some (decide ((k:Int)≥0))=_;rw[decide_eq_true (by omega)]
  ·rw[show qy_W0 n (l,(aC l,0))=some (Sum.inr ())from H,J];rfl
 ·have hi:=bH K;show qy_B0 n l (aC l) (i:Int)=_;unfold qy_B0 qau;rw[aD,decide_eq_true (by omega),yg,aP,K,yb,yb,bU (by omega)];cases x.1==5<;>rfl
 ·show qy_B0 n l (aC l) (l.length:Int)=_;unfold qy_B0;rw[aD,decide_eq_false (by omega),yh]
theorem NU(n:Nat)(l:List cZ)(hl:l.length≤64)(hn:100≤n):qf n l=some (l.any λt=>!Eh t):=by
 unfold qf qx;have h:=dF (B:=λs=>qx_B0 n s.1 s.2.1 s.2.2) (xs:=l) (mk:=λi=>(l,(aC l,(i:Int)))) (p:=λt=>!Eh t) (found:=λi x=>Sum.inl (i:Int)) (e:=Sum.inr ())
  (λi x K=>?_) ?_ l.length 0 n (by omega) (by omega)
 ·rw[yp2]at h;rcases h with ⟨J,k,x,_,_,H⟩|⟨J,H⟩
  ·rw[show qx_W0 n (l,(aC l,0))=some (Sum.inl (k:Int))from H,J];show some (decide ((k:Int)≥0))=_;rw[decide_eq_true (by omega)]
  ·rw[show qx_W0 n (l,(aC l,0))=some (Sum.inr ())from H,J];rfl
 ·have hi:=bH K;show qx_B0 n l (aC l) (i:Int)=_;unfold qx_B0 qak;rw[aD,decide_eq_true (by omega),yg,aP,K,yb,O1 n x,yb,yb,bU (by omega)];cases Eh x<;>rfl
 ·show qx_B0 n l (aC l) (l.length:Int)=_;unfold qx_B0;rw[aD,decide_eq_false (by omega),yh]
theorem SW(n:Nat)(i:Rx)(H:i.1.length≤64)(hn:100≤n):qav n i.1 i.2.1 i.2.2=some (NC i):=by
 unfold qav NC;rw[O1 n (i.2.1,i.2.2),yb];cases Eh (i.2.1,i.2.2)with
 |false=>rfl
 |true=>rw[yf2,yh,NU n i.1 H hn];rfl
theorem RE(n:Nat)(l:List Rx)(M: ∀i∈l,i.1.length≤64)(hl:l.length≤64)(hn:100≤n):qb n l=some (l.any NC):=by
 unfold qb qk;have h:=dF (B:=λs=>qk_B0 n s.1 s.2.1 s.2.2) (xs:=l) (mk:=λi=>(l,(aC l,(i:Int)))) (p:=NC) (found:=λi x=>Sum.inl (i:Int)) (e:=Sum.inr ())
  (λi x J=>?_) ?_ l.length 0 n (by omega) (by omega)
 ·rw[yp2]at h;rcases h with ⟨K,k,x,_,_,H⟩|⟨K,H⟩
  ·rw[show qk_W0 n (l,(aC l,0))=some (Sum.inl (k:Int))from H,K];show some (decide ((k:Int)≥0))=_;rw[decide_eq_true (by omega)]
  ·rw[show qk_W0 n (l,(aC l,0))=some (Sum.inr ())from H,K];rfl
 ·have hi:=bH J;show qk_B0 n l (aC l) (i:Int)=_;unfold qk_B0;rw[aD,decide_eq_true (by omega),yg,aP,J,yb,SW n x (M x (yk J)) hn,yb,bU (by omega)];cases NC x<;>rfl
 ·show qk_B0 n l (aC l) (l.length:Int)=_;unfold qk_B0;rw[aD,decide_eq_false (by omega),yh]
theorem iT{m:bM}(h:fI m=true):m.funcs.length≤8/\m.imps.length≤8/\1≤m.funcs.length/\(∀f∈m.funcs,(∀i∈f.2.2.2.2,oY i=false)/\f.2.2.2.2.length≤64/\f.2.2.2.1.length≤64/\1≤f.2.2.2.2.length/\f.1.length≤4)/\∀i∈m.imps,i.1.length≤64:=by
 simp only[fI,yc,decide_eq_true_eq,yf1]at h;obtain⟨_,_,U,V,K,N,O,_⟩:=h;refine⟨V,N,U,λf hf=>?_,λi J=>?_⟩
 ·have H:=GB (K f hf);have M:=K f hf;simp only[BG,yc,yw,List.any_eq_false]at M;exact⟨λi J=>by simpa using M.2.2.2.2.2 i J,H.2.2.2.1,by omega,H.2.2.1,H.1⟩
 ·have:=(H3 (O i J)).1;omega
theorem KQ(n:Nat)(m:bM)(N:Rj m)(hn:200≤n):qbh n m.recs m.funcs m.imps m.ints m.texts=some (dA m):=by
 unfold qbh dA;rw[QP n m N hn,yb];cases hf:fI m with
 |false=>rfl
 |true=>
  obtain⟨k1,k2,k3,Z,W⟩:=iT hf;rw[if_pos rfl]
  show((qbh_W0 n ((m.funcs,(aC m.funcs,0)),fC m)).bind _)=_
  have h:=Cl (B:=λs=>qbh_B0 n s.1.1 s.1.2.1 s.1.2.2 s.2.1 s.2.2.1 s.2.2.2.1 s.2.2.2.2.1 s.2.2.2.2.2) (xs:=m.funcs) (mk:=λi (a:Unit)=>((m.funcs,(aC m.funcs,(i:Int))),fC m)) (I:=λi a=>(m.funcs.take i).any (Il m)=false)
   (Q:=λy=>(m.funcs.any (Il m)=true/\∃z,y=Sum.inl (1,z))\/(m.funcs.any (Il m)=false/\y=Sum.inr (fC m))) (λi a x K hI=>?_) (λa hI=>?_) m.funcs.length 0 n () (by omega) rfl (by omega)
  ·obtain⟨y,h1,O⟩:=h;rw[show qbh_W0 n ((m.funcs,(aC m.funcs,0)),fC m)=some y from h1,yb];rcases O with ⟨M,z,rfl⟩|⟨M,rfl⟩
   ·rw[M];rfl
   ·rw[M]
    show((qb n m.imps).bind _)=_
    rw[RE n m.imps W (by omega) (by omega),yb];cases m.imps.any NC<;>rfl
  ·have hi:=bH K;have hm:=yk K;obtain⟨Y,U,V,_⟩:=Z x hm;have J:qbh_B0 n m.funcs (aC m.funcs) (i:Int) m.recs m.funcs m.imps m.ints m.texts=(if Il m x=true then some (Sum.inr (Sum.inl (1,(fC m,x))))else some (Sum.inl ((m.funcs,(aC m.funcs,((i+1:Nat):Int))),fC m))):=by
    unfold qbh_B0 Il;rw[aD,decide_eq_true (by omega),yg,aP,K,yb,PZ n m x Y U (by omega),yb];cases x.2.2.2.2.any λi=>!qI m x i with
    |true=>rfl
    |false=>
     show((qi n x.2.2.2.1).bind _)=_
     rw[Tk n x.2.2.2.1 V (by omega),yb,bU (by omega)];cases x.2.2.2.1.any λt=>t.1==5<;>rfl
   by_cases H:Il m x=true
   ·rw[if_pos H]at J;exact .inr ⟨_,J,.inl ⟨List.any_eq_true.2 ⟨x,hm,H⟩,_,rfl⟩⟩
   ·rw[if_neg H]at J;refine .inl ⟨(),J,?_⟩;rw[yp3,K,List.any_append,hI];simpa using H
  ·rw[yq3]at hI;refine⟨_,?_,.inr ⟨hI,rfl⟩⟩;show qbh_B0 n m.funcs (aC m.funcs) (m.funcs.length:Int) m.recs m.funcs m.imps m.ints m.texts=_;unfold qbh_B0;rw[aD,decide_eq_false (by omega),yh]
end Sx
end
section
namespace Sx
open Go Go.Ab
noncomputable def o6(m:bM):Bool:=dA m==0&&match m.funcs with
 | []=>false
 |f::_=>decide (f.1.length=0)&&f.2.1==1
theorem Ku{m:bM}(h:dA m=0): ∃f r,m.funcs=f::r:=by
 unfold dA at h;cases hf:fI m with
 |false=>rw[hf]at h;cases h
 |true=>
  have:=(iT hf).2.2.1;cases hm:m.funcs with
  |nil=>rw[hm]at this;simp at this
  |cons f r=>exact⟨f,r,rfl⟩
theorem PS(m:bM)(x:Option Int)(J:x=some (dA m)):
  (x.bind λr=>bif r==0 then(aM m.funcs 0).bind λM=>bif aC M.1==0 then(aM m.funcs 0).bind λK=>some (K.2.1==1)else some false else some false)=some (o6 m):=by
 rw[J,yb];unfold o6;cases hc:dA m==0 with
 |false=>rfl
 |true=>
  obtain⟨f,r,hm⟩:=Ku (eq_of_beq hc);rw[hm]
  show(bif aC f.1==0 then some (f.2.1==1)else some false)=some (true&&(decide (f.1.length=0)&&f.2.1==1))
  rw[aD];by_cases H:f.1.length=0
  ·rw[show((f.1.length:Int)==0)=true by rw[H];rfl,decide_eq_true H];simp
  ·rw[show((f.1.length:Int)==0)=false by rw[beq_eq_false_iff_ne];omega,decide_eq_false H];simp
theorem Tf(n:Nat)(m:bM)(H:Rj m)(hn:200≤n):qbt n m.recs m.funcs m.imps m.ints m.texts=some (o6 m):=PS m _ (KQ n m H hn)
end Sx
end
section
namespace Sx
open Go Go.Ab
theorem l8{α:Type}{s:List α}(h:1≤s.length): ∃r x,s=r++ [x]:=by
 refine⟨s.dropLast,s.getLast (by intro e;rw[e]at h;simp at h),?_⟩;rw[List.dropLast_concat_getLast]
theorem BP{α:Type}{s:List α}(h:2≤s.length): ∃r x y,s=r++ [x,y]:=by
 obtain⟨r,y,rfl⟩:=l8 (s:=s) (by omega);obtain⟨q,x,rfl⟩:=l8 (s:=r) (by simp at h;omega);exact⟨q,x,y,by simp⟩
theorem b7(r l:List (Int×Int))(k j:Nat)(hl:r.length+l.length≤1000000)(hj:k=l.length-j)(h1:1≤k)(hk:k≤l.length):aM (r++l) (bO .i64 (aC (r++l)) (k:Int))=l[l.length-k]?:=by
 have h:bO .i64 (aC (r++l)) (k:Int)=((r.length+(l.length-k):Nat):Int):=by
  rw[aD,yi,cT (by omega) (by omega)];omega
 rw[h,aP,yx (by omega)];congr 1;omega
theorem Rm(n:Nat)(m:bM)(f:i7)(x y:Int)(s:List cZ)(hs:s.length≤1000):
  qcd n m.recs m.funcs m.imps m.ints m.texts f.1 f.2.1 f.2.2.1 f.2.2.2.1 f.2.2.2.2 6 x y s=(aI n m.recs m.funcs m.imps m.ints m.texts f.1 f.2.1 f.2.2.1 f.2.2.2.1 f.2.2.2.2 6 x y s).map λr=>((r.1,r.2.1),r.2.2):=by
 simp only[qcd,qbu,aI,qbi,Int.reduceBEq,yh,yg,yb];by_cases h:1≤s.length
 ·obtain⟨r,t,rfl⟩:=l8 h;rw[yi,yl1]at hs;have J:=b7 r [t] 1 0 (by simp;omega) rfl (by omega) (by simp);have J:aM (r++ [t]) (bO .i64 (aC (r++ [t])) 1)=some t:=J;have H:bO .i64 (aC (r++ [t])) 1=((r.length:Nat):Int):=by
   rw[aD,yi,cT (by simp<;>omega) (by simp<;>omega)];simp
  rw[J,H,aD,yi,yl1,decide_eq_true (by omega),decide_eq_false (by omega),decide_eq_true (by omega),decide_eq_true (by omega)];simp only[yg,yh,yb,yi1,yl,yy];rw[yh2 (by simp),yo3]
 ·rw[aD,decide_eq_false (by omega),decide_eq_true (by omega)];rfl
theorem PN(n:Nat)(m:bM)(f:i7)(x y:Int)(s:List cZ)(hs:s.length≤1000):
  qcd n m.recs m.funcs m.imps m.ints m.texts f.1 f.2.1 f.2.2.1 f.2.2.2.1 f.2.2.2.2 7 x y s=(aI n m.recs m.funcs m.imps m.ints m.texts f.1 f.2.1 f.2.2.1 f.2.2.2.1 f.2.2.2.2 7 x y s).map λr=>((r.1,r.2.1),r.2.2):=by
 simp only[qcd,qbu,aI,qbi,Int.reduceBEq,yh,yg,yb];by_cases h:2≤s.length
 ·obtain⟨r,t,u,rfl⟩:=BP h;rw[yi]at hs;simp only[yz,yz2]at hs;have K:aM (r++ [t,u]) (bO .i64 (aC (r++ [t,u])) 1)=some u:=b7 r [t,u] 1 1 (by simp;omega) rfl (by omega) (by simp);have J:aM (r++ [t,u]) (bO .i64 (aC (r++ [t,u])) 2)=some t:=b7 r [t,u] 2 0 (by simp;omega) rfl (by omega) (by simp);have H:bO .i64 (aC (r++ [t,u])) 2=((r.length:Nat):Int):=by
   rw[aD,yi,cT (by simp<;>omega) (by simp<;>omega)];simp
  rw[K,J,H,aD,yi];simp only[yz,yz2];rw[decide_eq_true (by omega),decide_eq_false (by omega),decide_eq_true (by omega),decide_eq_true (by omega)];simp only[yg,yh,yb,yi1,yl,yy];rw[yh2 (by simp),yo3]
 ·rw[aD,decide_eq_false (by omega),decide_eq_true (by omega)];rfl
theorem NN(n:Nat)(m:bM)(f:i7)(x y:Int)(s:List cZ)(hs:s.length≤1000):
  qcd n m.recs m.funcs m.imps m.ints m.texts f.1 f.2.1 f.2.2.1 f.2.2.2.1 f.2.2.2.2 41 x y s=(aI n m.recs m.funcs m.imps m.ints m.texts f.1 f.2.1 f.2.2.1 f.2.2.2.1 f.2.2.2.2 41 x y s).map λr=>((r.1,r.2.1),r.2.2):=by
 simp only[qcd,qbu,aI,qbi,Int.reduceBEq,yh,yg,yb];by_cases h:1≤s.length
 ·obtain⟨r,t,rfl⟩:=l8 h;rw[yi,yl1]at hs;have M:aM (r++ [t]) (bO .i64 (aC (r++ [t])) 1)=some t:=b7 r [t] 1 0 (by simp;omega) rfl (by omega) (by simp);have H:bO .i64 (aC (r++ [t])) 1=((r.length:Nat):Int):=by
   rw[aD,yi,cT (by simp<;>omega) (by simp<;>omega)];simp
  rw[M,H,aD,yi,yl1,decide_eq_true (by omega),decide_eq_false (by omega),decide_eq_true (by omega),decide_eq_true (by omega)];simp only[yg,yh,yb,yi1,yl,yy];rw[yh2 (by simp),yo3];obtain⟨J,t2⟩:=t;by_cases K:J=5
  ·subst K;rfl
  ·rw[show(J==5)=false from beq_eq_false_iff_ne.2 K,show(J !=5)=true from bne_iff_ne.2 K];rfl
 ·rw[aD,decide_eq_false (by omega),decide_eq_true (by omega)];rfl
theorem O3(n:Nat)(m:bM)(f:i7)(i:AM)(s:List cZ)(H:oY i=false)(hl:f.1.length+f.2.2.2.1.length≤1000)(hs:s.length≤1000):
  qcd n m.recs m.funcs m.imps m.ints m.texts f.1 f.2.1 f.2.2.1 f.2.2.2.1 f.2.2.2.2 i.1 i.2.1 i.2.2 s=(aI n m.recs m.funcs m.imps m.ints m.texts f.1 f.2.1 f.2.2.1 f.2.2.2.1 f.2.2.2.2 i.1 i.2.1 i.2.2 s).map λr=>((r.1,r.2.1),r.2.2):=by
 unfold oY at H;have H:=of_decide_eq_false H;have J:=wH (op:=i.1) (by omega);obtain⟨op,x,y⟩:=i;have K:op=0\/op=1\/op=2\/op=3\/op=4\/op=5\/op=6\/op=7\/op=8\/op=9\/op=10\/op=11\/op=12\/op=13\/op=14\/op=15\/op=16\/op=17\/op=18\/op=19\/op=20\/op=21\/op=22\/op=23\/op=24\/op=25\/op=26\/op=27\/op=28\/op=29\/op=30\/op=31\/op=32\/op=33\/op=34\/op=35\/op=36\/op=37\/op=38\/op=39\/op=40\/op=41:=by simp only at J;omega
 rcases K with rfl|rfl|rfl|rfl|rfl|rfl|rfl|rfl|rfl|rfl|rfl|rfl|rfl|rfl|rfl|rfl|rfl|rfl|rfl|rfl|rfl|rfl|rfl|rfl|rfl|rfl|rfl|rfl|rfl|rfl|rfl|rfl|rfl|rfl|rfl|rfl|rfl|rfl|rfl|rfl|rfl|rfl
 ·rfl
 ·rfl
 ·rfl
 ·simp only[qcd,qbf,qbc,aI,qbi,Int.reduceBEq,yh,yg,yb,ge_iff_le,Int.reduceLE,decide_false,qbb_eq n f.1 f.2.1 f.2.2.1 f.2.2.2.1 f.2.2.2.2 x (by omega),j7 n f.1 f.2.1 f.2.2.1 f.2.2.2.1 f.2.2.2.2 x (by omega),yl,yr2]
 ·simp only[qcd,qbf,qbc,aI,qbi,Int.reduceBEq,yh,yg,yb,ge_iff_le,Int.reduceLE,decide_false,qbb_eq n f.1 f.2.1 f.2.2.1 f.2.2.2.1 f.2.2.2.2 x (by omega),j7 n f.1 f.2.1 f.2.2.1 f.2.2.2.1 f.2.2.2.2 x (by omega),yl,yr2]
 ·rfl
 ·exact Rm n m f x y s hs
 ·exact PN n m f x y s hs
 ·rfl
 ·rfl
 ·rfl
 ·rfl
 ·rfl
 ·rfl
 ·rfl
 ·rfl
 ·rfl
 ·rfl
 ·rfl
 ·rfl
 ·rfl
 ·rfl
 ·rfl
 ·rfl
 ·rfl
 ·simp only[qcd,qbf,qbc,aI,qbi,Int.reduceBEq,yh,yg,yb,ge_iff_le,Int.reduceLE,decide_false,decide_true];cases aM m.funcs x<;>rfl
 ·rfl
 ·simp only[qcd,qbf,qbc,aI,qbi,Int.reduceBEq,yh,yg,yb,ge_iff_le,Int.reduceLE,decide_false,decide_true];cases aM m.imps x<;>rfl
 ·simp only[qcd,qbf,qbc,aI,qbi,Int.reduceBEq,yh,yg,yb,ge_iff_le,Int.reduceLE,decide_false,decide_true];cases aM m.recs x<;>rfl
 ·simp only[qcd,qbf,qbc,aI,qbi,Int.reduceBEq,yh,yg,yb,ge_iff_le,Int.reduceLE,decide_false,decide_true];cases aM m.recs x with
  |none=>rfl
  |some l=>simp only[yb];cases aM l y<;>rfl
 ·simp only[qcd,qbf,qbc,aI,qbi,Int.reduceBEq,yh,yg,yb,ge_iff_le,Int.reduceLE,decide_false,decide_true];cases aM m.recs x with
  |none=>rfl
  |some l=>simp only[yb];cases aM l y<;>rfl
 ·rfl
 ·rfl
 ·rfl
 ·rfl
 ·rfl
 ·rfl
 ·rfl
 ·rfl
 ·rfl
 ·rfl
 ·exact NN n m f x y s hs
end Sx
end
section
namespace Sx
open Go Go.Ab
theorem TM(n:Nat)(s:List cZ):qaw n s=some s:=by
 unfold qaw;rw[aD,decide_eq_true (by omega),decide_eq_true (by omega),decide_eq_true (by omega),yy,yq3];rfl
theorem SU(n k:Nat)(hk:k≤1000):qbs n (k:Int)=if k=0 then some (Sum.inr ())else some (Sum.inl ((0,0),List.replicate k (0,0))):=by
 unfold qbs;rw[decide_eq_false (by omega),yh,cT (by omega) (by omega)];by_cases h:k=0
 ·subst h;rfl
 ·have e:(k:Int)-0=(k:Int):=by omega
  rw[if_neg h,e,decide_eq_true (by omega),yg,yy,decide_eq_true (by omega),show Nat.ble k 4294967296=true from by rw[Nat.ble_eq];omega];simp only[yi1,yg];rw[decide_eq_true (by omega)];rfl
theorem Mj(n:Nat)(a b:List cZ)(ha:a.length≤300)(hb:b.length≤300)(hn:10≤n):qar_W0 n ([a,b],(0,([a,b],(aC [a,b],0))))=some ([a,b],((a.length+b.length:Nat):Int)):=by
 obtain⟨m,rfl⟩: ∃m,n=m+3:=⟨n-3,by omega⟩
 have H:qar_B0 (m+3) [a,b] 0 [a,b] 2 0=some (Sum.inl ([a,b],((a.length:Int),([a,b],((2:Int),(1:Int)))))):=by
  unfold qar_B0;rw[show(decide ((0:Int)<2))=true from rfl,yg,show aM [a,b] 0=some a from rfl,yb,aD,cL (by omega) (by omega),decide_eq_false (by omega),yh,show aX .i64 0 1=1 from rfl];simp
 have J:qar_B0 (m+3) [a,b] (a.length:Int) [a,b] 2 1=some (Sum.inl ([a,b],(((a.length+b.length:Nat):Int),([a,b],((2:Int),(2:Int)))))):=by
  unfold qar_B0;rw[show(decide ((1:Int)<2))=true from rfl,yg,show aM [a,b] 1=some b from rfl,yb,aD,cL (by omega) (by omega),decide_eq_false (by omega),yh,show aX .i64 1 1=2 from rfl];simp
 exact(b8 (B:=λs=>qar_B0 (m+3) s.1 s.2.1 s.2.2.1 s.2.2.2.1 s.2.2.2.2) (s:=([a,b],((0:Int),([a,b],((2:Int),(0:Int)))))) H).trans ((b8 (B:=λs=>qar_B0 (m+3) s.1 s.2.1 s.2.2.1 s.2.2.2.1 s.2.2.2.2) (s:=([a,b],((a.length:Int),([a,b],((2:Int),(1:Int)))))) J).trans (b4 rfl))
theorem Oy(n:Nat)(a b m0:List cZ)(hb:b.length≤300)(hm:m0.length≤1000):qar_B2x1q1 n [a,b] 2 1 m0=some (Sum.inl (Sum.inr (Sum.inl (([a,b],((2:Int),(2:Int))),m0++b)))):=by
 unfold qar_B2x1q1;rw[show(decide ((1:Int)<2))=true from rfl,yg,show aM [a,b] 1=some b from rfl,yb,cV (by rw[yi];omega),yg];rfl
theorem Fd(n k:Nat)(a b m0:List cZ)(H:b.length≤300)(hm:m0.length≤1000):aY (qar_M2x1 n) (k+2) (Sum.inr (Sum.inl (([a,b],((2:Int),(1:Int))),m0)))=some (Sum.inr (Sum.inl (m0++b))):=
 (b8 (Oy n a b m0 H hm)).trans (b4 rfl)
theorem Qv(n:Nat)(a b:List cZ)(K:a.length≤300)(H:b.length≤300)(hn:10≤n):qar n [a,b]=some (Sum.inr (a++b)):=by
 unfold qar;rw[Mj n a b K H hn,yb];simp only;rw[SU n _ (by omega),show aC [a,b]=2 from rfl];obtain⟨m,rfl⟩: ∃m,n=m+3:=⟨n-3,by omega⟩
 by_cases h:a.length+b.length=0
 ·rw[if_pos h,yb];have J:qar_W2x1 (m+3) (Sum.inr (Sum.inr ([a,b],((2:Int),(0:Int)))))=some (Sum.inr (Sum.inl (a++b))):=by
   refine(b8 (B:=qar_M2x1 (m+3)) (s':=Sum.inr (Sum.inl (([a,b],((2:Int),(1:Int))),a))) ?_).trans (Fd (m+3) m a b a H (by omega));show qar_B2x1q2 (m+3) [a,b] 2 0=_;unfold qar_B2x1q2;rw[show(decide ((0:Int)<2))=true from rfl,yg,show aM [a,b] 0=some a from rfl,yb,cV (by omega),yg];rfl
  show((qar_W2x1 (m+3) (Sum.inr (Sum.inr ([a,b],((2:Int),(0:Int)))))).bind _)=_
  rw[J];rfl
 ·rw[if_neg h,yb];have J:qar_W2x1 (m+3) (Sum.inl (((0,0),([a,b],((2:Int),(0:Int)))),List.replicate (a.length+b.length) (0,0)))=some (Sum.inr (Sum.inl (a++b))):=by
   refine(b8 (B:=qar_M2x1 (m+3)) (s':=Sum.inr (Sum.inl (([a,b],((2:Int),(1:Int))),a))) ?_).trans (Fd (m+3) m a b a H (by omega));show qar_B2x1q0 (m+3) (0,0) [a,b] 2 0 (List.replicate (a.length+b.length) (0,0))=_;unfold qar_B2x1q0;rw[show(decide ((0:Int)<2))=true from rfl,yg,show aM [a,b] 0=some a from rfl,yb];simp only[yi4,yv3,Nat.beq,yg];rw[show Nat.ble (0+0) (List.length (List.replicate (a.length+b.length) ((0:Int),(0:Int))))=true from(by rw[Nat.ble_eq];omega),yg,cV (by omega),yg];rfl
  show((qar_W2x1 (m+3) (Sum.inl (((0,0),([a,b],((2:Int),(0:Int)))),List.replicate (a.length+b.length) (0,0)))).bind _)=_
  rw[J];rfl
abbrev FR:=List cZ×List Int×Int
def kE(s inn:List cZ):Bool:=(inn.zip (s.drop (s.length-inn.length))).all λq=>f7 q.2 q.1
def E8(i:AM)(pc:Int):List Int:=if i.1=26 then []else if i.1=23 then [i.2.1]else if i.1=24 then [pc+1,i.2.1]else [pc+1]
def gT(f:i7)(i:AM)(pc:Int)(s:List cZ)(r:List cZ×List cZ×Bool):FR:=
 if r.2.2=false\/s.length<r.1.length\/s.length-r.1.length+r.2.1.length>8\/kE s r.1=false then([],[],4)else
 if i.1≠26/\i.1≠23/\pc+1≥(f.2.2.2.2.length:Int)then([],[],1)else(s.take (s.length-r.1.length)++r.2.1,E8 i pc,0)
theorem Jd{S X:Type}(inn:List cZ)(s:List cZ)(hl:inn.length≤s.length){B:S->Option (S⊕X)}{mk:Nat->S}{found:Nat->cZ->cZ->X}{e:X}
  (hs: ∀i x y,inn[i]?=some x->s[s.length-inn.length+i]?=some y->B (mk i)=(if f7 y x=true then some (.inl (mk (i+1)))else some (.inr (found i x y))))
  (K:B (mk inn.length)=some (.inr e)) (n:Nat) (hn:inn.length<n):
  (kE s inn=true/\aY B n (mk 0)=some e)\/(kE s inn=false/\∃i x y,aY B n (mk 0)=some (found i x y)):=
 loop_two (p:=λx y=>f7 y x) (by rw[yb4];omega) (λi x y J H=>hs i x y J (by rw[ye1]at H;exact H)) K n hn
theorem qbr_eq(n:Nat)(m:bM)(Y H:Nat)(f:i7)(i:AM)(s:List cZ)(r:List cZ×List cZ×Bool)(hf:m.funcs[Y]?=some f)(V:f.2.2.2.2[H]?=some i)(hb:oY i=false)(hl:f.1.length+f.2.2.2.1.length≤200)
  (hr:aI n m.recs m.funcs m.imps m.ints m.texts f.1 f.2.1 f.2.2.1 f.2.2.2.1 f.2.2.2.2 i.1 i.2.1 i.2.2 s=some r) (hs:s.length≤200) (h1:r.1.length≤200) (Z:r.2.1.length≤200) (hp:H≤200) (hc:f.2.2.2.2.length≤200)
  (hj:i.1=23->i.2.1<(f.2.2.2.2.length:Int)) (hn:1000≤n):qbr n m.recs m.funcs m.imps m.ints m.texts (Y:Int) (H:Int) s=some (gT f i (H:Int) s r):=by
 unfold qbr gT;rw[aP,hf,yb,aP,V,yb,O3 n m f i s hb (by omega) (by omega),hr,yl,yb];obtain⟨inn,out,ok⟩:=r;simp only at h1 Z⊢
 cases ok with
 |false=>rw[if_pos (.inl rfl)];rfl
 |true=>
  rw[aD,aD,aD];simp only[yf2,yh,Bool.true_eq_false,false_or];by_cases h3:s.length<inn.length
  ·rw[if_pos (.inl h3),cT (by omega) (by omega),decide_eq_true (by omega)];rfl
  ·have U:bO .i64 (s.length:Int) (inn.length:Int)=((s.length-inn.length:Nat):Int):=by rw[cT (by omega) (by omega)];omega
   rw[U,decide_eq_false (by omega),yh,cL (by omega) (by omega)];by_cases h4:s.length-inn.length+out.length>8
   ·rw[if_pos (.inr (.inl h4)),decide_eq_true (by omega)];rfl
   ·rw[decide_eq_false (by omega),yh];have hL:=Jd inn s (by omega) (B:=λq=>qbr_B0 n q.1.1 q.1.2.1 q.1.2.2.1 q.1.2.2.2.1 q.1.2.2.2.2.1 q.1.2.2.2.2.2 q.2.1.1 q.2.1.2.1 q.2.1.2.2.1 q.2.1.2.2.2.1 q.2.1.2.2.2.2 q.2.2.1 q.2.2.2)
     (mk:=λ(j:Nat)=>(((H:Int),(s,(((s.length-inn.length:Nat):Int),(inn,((inn.length:Int),(j:Int)))))),((f.1,(f.2.1,(f.2.2.1,(f.2.2.2.1,f.2.2.2.2)))),(inn,out))))
     (found:=λj x y=>Sum.inl ((([]:List cZ),(([]:List Int),(4:Int))),((f.1,(f.2.1,(f.2.2.1,(f.2.2.2.1,f.2.2.2.2)))),((inn,out),(x.1,x.2)))))
     (e:=Sum.inr (((H:Int),(s,((s.length-inn.length:Nat):Int))),((f.1,(f.2.1,(f.2.2.1,(f.2.2.2.1,f.2.2.2.2)))),(inn,out))))
     (fun j x y W hy => by
      have hjl:=G8 W;show qbr_B0 n (H:Int) s ((s.length-inn.length:Nat):Int) inn (inn.length:Int) (j:Int) f.1 f.2.1 f.2.2.1 f.2.2.2.1 f.2.2.2.2 inn out=_;unfold qbr_B0;have ha:aX .i64 ((s.length-inn.length:Nat):Int) (j:Int)=((s.length-inn.length+j:Nat):Int):=by rw[cL (by omega) (by omega)];omega
      rw[decide_eq_true (by omega),yg,aP,W,yb,ha,aP,hy,yb,qbz_eq n y x,yb,bU (by omega)]
      cases f7 y x<;>rfl)
     (by
      show qbr_B0 n (H:Int) s ((s.length-inn.length:Nat):Int) inn (inn.length:Int) (inn.length:Int) f.1 f.2.1 f.2.2.1 f.2.2.2.1 f.2.2.2.2 inn out=_;unfold qbr_B0
      rw[decide_eq_false (by omega),yh]) n (by omega)
    rcases hL with ⟨ht,hW⟩|⟨ht,j,x,y,hW⟩
    ·rw[show qbr_W0 n (((H:Int),(s,(((s.length-inn.length:Nat):Int),(inn,((inn.length:Int),0))))),((f.1,(f.2.1,(f.2.2.1,(f.2.2.2.1,f.2.2.2.2)))),(inn,out)))=_ from hW,yb];simp only;rw[if_neg (by rw[ht];simp;omega),aP,V,yb];have N:(decide ((0:Int)≤((s.length-inn.length:Nat):Int))&&decide (((s.length-inn.length:Nat):Int)≤((s.length:Nat):Int)))=true:=by
      rw[decide_eq_true (by omega),decide_eq_true (by omega)];rfl
     rw[N,yy,Qv n _ out (by rw[yn2];omega) (by omega) (by omega)];simp only[yb,yg];rw[TM n];simp only[yb];unfold qbv E8;by_cases K:i.1=26
     ·rw[K];rfl
     ·rw[show(i.1==26)=false from beq_eq_false_iff_ne.2 K,yh,if_neg K];by_cases J:i.1=23
      ·have hj':=hj J;rw[show(i.1==23)=true from beq_iff_eq.2 J,yg,if_pos J,yb];rw[show(decide (aC [i.2.1]>0))=true from rfl,yg,show aM [i.2.1] 0=some i.2.1 from rfl,yb,aD,decide_eq_false (by omega),yh,if_neg (by omega)]
      ·rw[show(i.1==23)=false from beq_eq_false_iff_ne.2 J,yh,if_neg J,cL (by omega) (by omega)];by_cases M:i.1=24
       ·rw[show(i.1==24)=true from beq_iff_eq.2 M,yg,if_pos M,yb];rw[show(decide (aC [(H:Int)+1,i.2.1]>0))=true from rfl,yg,show aM [(H:Int)+1,i.2.1] 0=some ((H:Int)+1)from rfl,yb,aD];by_cases O:(H:Int)+1≥(f.2.2.2.2.length:Int)
        ·rw[decide_eq_true O,yg,if_pos ⟨K,J,O⟩]
        ·rw[decide_eq_false O,yh,if_neg (by omega)]
       ·rw[show(i.1==24)=false from beq_eq_false_iff_ne.2 M,yh,if_neg M,yb];rw[show(decide (aC [(H:Int)+1]>0))=true from rfl,yg,show aM [(H:Int)+1] 0=some ((H:Int)+1)from rfl,yb,aD];by_cases O:(H:Int)+1≥(f.2.2.2.2.length:Int)
        ·rw[decide_eq_true O,yg,if_pos ⟨K,J,O⟩]
        ·rw[decide_eq_false O,yh,if_neg (by omega)]
    ·rw[show qbr_W0 n (((H:Int),(s,(((s.length-inn.length:Nat):Int),(inn,((inn.length:Int),0))))),((f.1,(f.2.1,(f.2.2.1,(f.2.2.2.1,f.2.2.2.2)))),(inn,out)))=_ from hW,yb,if_pos (.inr (.inr ht))]
theorem NL(n:Nat)(m:bM)(W J:Nat)(f:i7)(i:AM)(s:List cZ)(r:List cZ×List cZ×Bool)(hf:m.funcs[W]?=some f)(Y:f.2.2.2.2[J]?=some i)
  (hr:aI n m.recs m.funcs m.imps m.ints m.texts f.1 f.2.1 f.2.2.1 f.2.2.2.1 f.2.2.2.2 i.1 i.2.1 i.2.2 s=some r) (hs:s.length≤200) (h1:r.1.length≤200) (Z:r.2.1.length≤200) (hp:J≤200) (hc:f.2.2.2.2.length≤200)
  (hn:1000≤n):y7 n m.recs m.funcs m.imps m.ints m.texts (W:Int) (J:Int) s=some (gT f i (J:Int) s r):=by
 unfold y7 gT;rw[aP,hf,yb,aP,Y,yb,hr,yb];obtain⟨inn,out,ok⟩:=r;simp only at h1 Z⊢
 cases ok with
 |false=>rw[if_pos (.inl rfl)];rfl
 |true=>
  rw[aD,aD,aD];simp only[yf2,yh,Bool.true_eq_false,false_or];by_cases h3:s.length<inn.length
  ·rw[if_pos (.inl h3),cT (by omega) (by omega),decide_eq_true (by omega)];rfl
  ·have O:bO .i64 (s.length:Int) (inn.length:Int)=((s.length-inn.length:Nat):Int):=by rw[cT (by omega) (by omega)];omega
   rw[O,decide_eq_false (by omega),yh,cL (by omega) (by omega)];by_cases h4:s.length-inn.length+out.length>8
   ·rw[if_pos (.inr (.inl h4)),decide_eq_true (by omega)];rfl
   ·rw[decide_eq_false (by omega),yh];have hL:=Jd inn s (by omega) (B:=λq=>iV n q.1.1 q.1.2.1 q.1.2.2.1 q.1.2.2.2.1 q.1.2.2.2.2.1 q.1.2.2.2.2.2 q.2.1.1 q.2.1.2.1 q.2.1.2.2.1 q.2.1.2.2.2.1 q.2.1.2.2.2.2 q.2.2.1 q.2.2.2.1 q.2.2.2.2)
     (mk:=λ(j:Nat)=>(((J:Int),(s,(inn,(out,(((s.length-inn.length:Nat):Int),(j:Int)))))),((f.1,(f.2.1,(f.2.2.1,(f.2.2.2.1,f.2.2.2.2)))),(i.1,(i.2.1,i.2.2)))))
     (found:=λj x y=>Sum.inl ((([]:List cZ),(([]:List Int),(4:Int))),((f.1,(f.2.1,(f.2.2.1,(f.2.2.2.1,f.2.2.2.2)))),(i.1,(i.2.1,i.2.2)))))
     (e:=Sum.inr (((J:Int),(s,(out,((s.length-inn.length:Nat):Int)))),((f.1,(f.2.1,(f.2.2.1,(f.2.2.2.1,f.2.2.2.2)))),(i.1,(i.2.1,i.2.2)))))
     (fun j x y V hy => by
      have hjl:=G8 V;show iV n (J:Int) s inn out ((s.length-inn.length:Nat):Int) (j:Int) f.1 f.2.1 f.2.2.1 f.2.2.2.1 f.2.2.2.2 i.1 i.2.1 i.2.2=_;unfold iV;have ha:aX .i64 ((s.length-inn.length:Nat):Int) (j:Int)=((s.length-inn.length+j:Nat):Int):=by rw[cL (by omega) (by omega)];omega
      rw[aD,decide_eq_true (by omega),yg,ha,aP,hy,yb,aP,V,yb,QT n y x,yb,bU (by omega)]
      cases f7 y x<;>rfl)
     (by
      show iV n (J:Int) s inn out ((s.length-inn.length:Nat):Int) (inn.length:Int) f.1 f.2.1 f.2.2.1 f.2.2.2.1 f.2.2.2.2 i.1 i.2.1 i.2.2=_;unfold iV
      rw[aD,decide_eq_false (by omega),yh]) n (by omega)
    rcases hL with ⟨ht,hW⟩|⟨ht,j,x,y,hW⟩
    ·rw[show rQ n (((J:Int),(s,(inn,(out,(((s.length-inn.length:Nat):Int),0))))),((f.1,(f.2.1,(f.2.2.1,(f.2.2.2.1,f.2.2.2.2)))),(i.1,(i.2.1,i.2.2))))=_ from hW,yb];simp only;rw[if_neg (by rw[ht];simp;omega)];have N:(decide ((0:Int)≤((s.length-inn.length:Nat):Int))&&decide (((s.length-inn.length:Nat):Int)≤((s.length:Nat):Int)))=true:=by
      rw[decide_eq_true (by omega),decide_eq_true (by omega)];rfl
     rw[N,yy,cV (by rw[yn2];omega),cV (by rw[yi,yn2];omega)];simp only[yg];unfold E8;by_cases M:i.1=26
     ·rw[M];rfl
     ·rw[show(i.1==26)=false from beq_eq_false_iff_ne.2 M,yh,if_neg M];by_cases H:i.1=23
      ·rw[show(i.1==23)=true from beq_iff_eq.2 H,yg,if_pos H,if_neg (by omega)]
      ·rw[show(i.1==23)=false from beq_eq_false_iff_ne.2 H,yh,if_neg H,cL (by omega) (by omega),aD];by_cases U:(J:Int)+1≥(f.2.2.2.2.length:Int)
       ·rw[decide_eq_true U,yg,if_pos ⟨M,H,U⟩]
       ·rw[decide_eq_false U,yh,if_neg (by omega)];by_cases K:i.1=24
        ·rw[show(i.1==24)=true from beq_iff_eq.2 K,yg,if_pos K]
        ·rw[show(i.1==24)=false from beq_eq_false_iff_ne.2 K,yh,if_neg K]
    ·rw[show rQ n (((J:Int),(s,(inn,(out,(((s.length-inn.length:Nat):Int),0))))),((f.1,(f.2.1,(f.2.2.1,(f.2.2.2.1,f.2.2.2.2)))),(i.1,(i.2.1,i.2.2))))=_ from hW,yb,if_pos (.inr (.inr ht))]
end Sx
end
section
set_option maxRecDepth 100000
namespace Sx
open Go Go.Ab
end Sx
end
section
namespace Sx
open Go Go.Ab
theorem P0{m:bM}(h:fI m=true):m.recs.length≤8/\∀l∈m.recs,l.length≤6:=by
 simp only[fI,yc,decide_eq_true_eq,yf1]at h;exact⟨h.1,λl H=>by have:=lF (h.2.1 l H);omega⟩
theorem eM{m:bM}(h:dA m=0):fI m=true/\∀f∈m.funcs,Il m f=false:=by
 unfold dA at h;cases hf:fI m with
 |false=>rw[if_pos hf]at h;cases h
 |true=>
  rw[if_neg (by rw[hf];simp)]at h;refine⟨rfl,λf hm=>?_⟩;cases H:m.funcs.any (Il m)with
  |true=>rw[if_pos H]at h;cases h
  |false=>simpa using List.any_eq_false.1 H f hm
theorem pH{m:bM}(h:dA m=0){f:i7}(hf:f∈m.funcs){i:AM}(H:i∈f.2.2.2.2):qI m f i=true:=by
 have:=(eM h).2 f hf;unfold Il at this;rw[Bool.or_eq_false_iff]at this;simpa using List.any_eq_false.1 this.1 i H
theorem gS{α:Type}{l:List α}{x:Int}(h0:0≤x)(h:x<(l.length:Int)): ∃a,aM l x=some a/\a∈l:=by
 obtain⟨k,rfl⟩: ∃k:Nat,x=(k:Int):=⟨x.toNat,by omega⟩
 exact⟨l[k]'(by omega),by rw[aP,yf],yk2 _⟩
theorem Jf(n:Nat)(m:bM)(f:i7)(i:AM)(s:List cZ)(hc:dA m=0)(hf:f∈m.funcs)(Y:i∈f.2.2.2.2)(hs:s.length≤200):
  ∃r,aI n m.recs m.funcs m.imps m.ints m.texts f.1 f.2.1 f.2.2.1 f.2.2.2.1 f.2.2.2.2 i.1 i.2.1 i.2.2 s=some r/\r.1.length≤200/\r.2.1.length≤200:=by
 obtain⟨hF,hB⟩:=eM hc;obtain⟨k1,k2,k3,V,k5⟩:=iT hF;obtain⟨q1,q2⟩:=P0 hF;have hN:=pH hc hf Y;have K:=(V f hf).1 i Y;have hfl:=V f hf;have hr:=sE K;unfold oY at K;have K:=of_decide_eq_false K;have ha:=wH (op:=i.1) (by omega);obtain⟨op,x,y⟩:=i;simp only at hr;have Z:op=0\/op=1\/op=2\/op=3\/op=4\/op=5\/op=6\/op=7\/op=8\/op=9\/op=10\/op=11\/op=12\/op=13\/op=14\/op=15\/op=16\/op=17\/op=18\/op=19\/op=20\/op=21\/op=22\/op=23\/op=24\/op=25\/op=26\/op=27\/op=28\/op=29\/op=30\/op=31\/op=32\/op=33\/op=34\/op=35\/op=36\/op=37\/op=38\/op=39\/op=40\/op=41:=by simp only at ha;omega
 rcases Z with rfl|rfl|rfl|rfl|rfl|rfl|rfl|rfl|rfl|rfl|rfl|rfl|rfl|rfl|rfl|rfl|rfl|rfl|rfl|rfl|rfl|rfl|rfl|rfl|rfl|rfl|rfl|rfl|rfl|rfl|rfl|rfl|rfl|rfl|rfl|rfl|rfl|rfl|rfl|rfl|rfl|rfl
 ·exact⟨_,rfl,by simp,by simp⟩
 ·exact⟨_,rfl,by simp,by simp⟩
 ·exact⟨_,rfl,by simp,by simp⟩
 ·simp only[aI,Int.reduceBEq,yh,yg,j7 n f.1 f.2.1 f.2.2.1 f.2.2.2.1 f.2.2.2.2 x (by omega),yb];exact⟨_,rfl,by simp,by simp⟩
 ·simp only[aI,Int.reduceBEq,yh,yg,j7 n f.1 f.2.1 f.2.2.1 f.2.2.2.1 f.2.2.2.2 x (by omega),yb];exact⟨_,rfl,by simp,by simp⟩
 ·exact⟨_,rfl,by simp,by simp⟩
 ·simp only[aI,Int.reduceBEq,yh,yg];by_cases h:1≤s.length
  ·obtain⟨r,t,rfl⟩:=l8 h;rw[yi,yl1]at hs;have N:aM (r++ [t]) (bO .i64 (aC (r++ [t])) 1)=some t:=b7 r [t] 1 0 (by simp;omega) rfl (by omega) (by simp);have J:bO .i64 (aC (r++ [t])) 1=((r.length:Nat):Int):=by
    rw[aD,yi,cT (by simp<;>omega) (by simp<;>omega)];simp
   rw[N,J,aD,yi,yl1,decide_eq_false (by omega),decide_eq_true (by omega),decide_eq_true (by omega)];simp only[yg,yh,yb,yi1,yy];rw[yh2 (by simp),yo3];exact⟨_,rfl,by simp,by simp⟩
  ·rw[aD,decide_eq_true (by omega)];exact⟨_,rfl,by simp,by simp⟩
 ·simp only[aI,Int.reduceBEq,yh,yg];by_cases h:2≤s.length
  ·obtain⟨r,t,u,rfl⟩:=BP h;rw[yi]at hs;simp only[yz,yz2]at hs;have U:aM (r++ [t,u]) (bO .i64 (aC (r++ [t,u])) 1)=some u:=b7 r [t,u] 1 1 (by simp;omega) rfl (by omega) (by simp);have W:aM (r++ [t,u]) (bO .i64 (aC (r++ [t,u])) 2)=some t:=b7 r [t,u] 2 0 (by simp;omega) rfl (by omega) (by simp);have J:bO .i64 (aC (r++ [t,u])) 2=((r.length:Nat):Int):=by
    rw[aD,yi,cT (by simp<;>omega) (by simp<;>omega)];simp
   rw[U,W,J,aD,yi];simp only[yz,yz2];rw[decide_eq_false (by omega),decide_eq_true (by omega),decide_eq_true (by omega)];simp only[yg,yh,yb,yi1,yy];rw[yh2 (by simp),yo3];exact⟨_,rfl,by simp,by simp⟩
  ·rw[aD,decide_eq_true (by omega)];exact⟨_,rfl,by simp,by simp⟩
 ·exact⟨_,rfl,by simp,by simp⟩
 ·exact⟨_,rfl,by simp,by simp⟩
 ·exact⟨_,rfl,by simp,by simp⟩
 ·exact⟨_,rfl,by simp,by simp⟩
 ·exact⟨_,rfl,by simp,by simp⟩
 ·exact⟨_,rfl,by simp,by simp⟩
 ·exact⟨_,rfl,by simp,by simp⟩
 ·exact⟨_,rfl,by simp,by simp⟩
 ·exact⟨_,rfl,by simp,by simp⟩
 ·exact⟨_,rfl,by simp,by simp⟩
 ·exact⟨_,rfl,by simp,by simp⟩
 ·exact⟨_,rfl,by simp,by simp⟩
 ·exact⟨_,rfl,by simp,by simp⟩
 ·exact⟨_,rfl,by simp,by simp⟩
 ·exact⟨_,rfl,by simp,by simp⟩
 ·exact⟨_,rfl,by simp,by simp⟩
 ·exact⟨_,rfl,by simp,by simp⟩
 ·have H:x<(m.funcs.length:Int):=of_decide_eq_true (show decide (x<aC m.funcs)=true from hN);obtain⟨a,e,hm⟩:=gS hr.1 H;simp only[aI,Int.reduceBEq,yh,yg,e,yb];exact⟨_,rfl,by have:=(V a hm).2.2.2.2;simp only;omega,by simp⟩
 ·exact⟨_,rfl,by simp,by simp⟩
 ·have H:x<(m.imps.length:Int):=of_decide_eq_true (show decide (x<aC m.imps)=true from hN);obtain⟨a,e,hm⟩:=gS hr.1 H;simp only[aI,Int.reduceBEq,yh,yg,e,yb];exact⟨_,rfl,by have:=k5 a hm;simp only;omega,by simp⟩
 ·have H:x<(m.recs.length:Int):=of_decide_eq_true (show decide (x<aC m.recs)=true from hN);obtain⟨a,e,hm⟩:=gS hr.1 H;simp only[aI,Int.reduceBEq,yh,yg,e,yb];exact⟨_,rfl,by have:=q2 a hm;simp only;omega,by simp⟩
 ·have hN:(bif decide (x<aC m.recs)then(aM m.recs x).bind λl=>some (decide (y<aC l))else some false).getD false=true:=hN;by_cases H:x<(m.recs.length:Int)
  ·rw[aD,decide_eq_true H,yg]at hN;obtain⟨a,e,hm⟩:=gS hr.1 H;rw[e]at hN;have M:y<(a.length:Int):=of_decide_eq_true hN;obtain⟨b,O,_⟩:=gS hr.2.2.1 M;simp only[aI,Int.reduceBEq,yh,yg,e,O,yb];exact⟨_,rfl,by simp,by simp⟩
  ·rw[aD,decide_eq_false H]at hN;cases hN
 ·have hN:(bif decide (x<aC m.recs)then(aM m.recs x).bind λl=>some (decide (y<aC l))else some false).getD false=true:=hN;by_cases H:x<(m.recs.length:Int)
  ·rw[aD,decide_eq_true H,yg]at hN;obtain⟨a,e,hm⟩:=gS hr.1 H;rw[e]at hN;have M:y<(a.length:Int):=of_decide_eq_true hN;obtain⟨b,O,_⟩:=gS hr.2.2.1 M;simp only[aI,Int.reduceBEq,yh,yg,e,O,yb];exact⟨_,rfl,by simp,by simp⟩
  ·rw[aD,decide_eq_false H]at hN;cases hN
 ·exact⟨_,rfl,by simp,by simp⟩
 ·exact⟨_,rfl,by simp,by simp⟩
 ·exact⟨_,rfl,by simp,by simp⟩
 ·exact⟨_,rfl,by simp,by simp⟩
 ·exact⟨_,rfl,by simp,by simp⟩
 ·exact⟨_,rfl,by simp,by simp⟩
 ·exact⟨_,rfl,by simp,by simp⟩
 ·exact⟨_,rfl,by simp,by simp⟩
 ·exact⟨_,rfl,by simp,by simp⟩
 ·exact⟨_,rfl,by simp,by simp⟩
 ·simp only[aI,Int.reduceBEq,yh,yg];by_cases h:1≤s.length
  ·obtain⟨r,t,rfl⟩:=l8 h;rw[yi,yl1]at hs;have N:aM (r++ [t]) (bO .i64 (aC (r++ [t])) 1)=some t:=b7 r [t] 1 0 (by simp;omega) rfl (by omega) (by simp);have J:bO .i64 (aC (r++ [t])) 1=((r.length:Nat):Int):=by
    rw[aD,yi,cT (by simp<;>omega) (by simp<;>omega)];simp
   rw[N,J,aD,yi,yl1,decide_eq_false (by omega),decide_eq_true (by omega),decide_eq_true (by omega)];simp only[yg,yh,yb,yi1,yy];rw[yh2 (by simp),yo3];cases t.1 !=5<;>exact⟨_,rfl,by simp,by simp⟩
  ·rw[aD,decide_eq_true (by omega)];exact⟨_,rfl,by simp,by simp⟩
theorem Qt(n:Nat)(m:bM)(M J:Nat)(f:i7)(i:AM)(s:List cZ)(hc:dA m=0)(hf:m.funcs[M]?=some f)(N:f.2.2.2.2[J]?=some i)(hs:s.length≤200)(hn:1000≤n):
  ∃r,aI n m.recs m.funcs m.imps m.ints m.texts f.1 f.2.1 f.2.2.1 f.2.2.2.1 f.2.2.2.2 i.1 i.2.1 i.2.2 s=some r/\r.1.length≤200/\r.2.1.length≤200/\
   qbr n m.recs m.funcs m.imps m.ints m.texts (M:Int) (J:Int) s=some (gT f i (J:Int) s r)/\y7 n m.recs m.funcs m.imps m.ints m.texts (M:Int) (J:Int) s=some (gT f i (J:Int) s r):=by
 have H:=yk hf;have K:=yk N;obtain⟨hF,hB⟩:=eM hc;obtain⟨k1,k2,k3,Y,k5⟩:=iT hF;have V:=Y f H;have W:=G8 N;obtain⟨r,hr,U,O⟩:=Jf n m f i s hc H K hs;refine⟨r,hr,U,O,qbr_eq n m M J f i s r hf N (V.1 i K) (by omega) hr hs U O (by omega) (by omega) (λh=>?_) hn,NL n m M J f i s r hf N hr hs U O (by omega) (by omega) hn⟩;have hN:=pH hc H K;obtain⟨op,x,y⟩:=i;simp only at h;subst h;exact of_decide_eq_true (show decide (x<aC f.2.2.2.2)=true from hN)
end Sx
end
section
namespace Sx
open Go Go.Ab
theorem Qr{f:i7}{i:AM}{pc:Int}{s:List cZ}{r:List cZ×List cZ×Bool}(hs:s.length≤200)(h2:r.2.1.length≤200):(gT f i pc s r).1.length≤400/\(gT f i pc s r).2.1.length≤2:=by
 unfold gT;split
 ·simp
 ·split
  ·simp
  ·refine⟨by simp only[yi,yn2];omega,?_⟩;unfold E8;simp only;split
   ·simp
   ·split
    ·simp
    ·split<;>simp
end Sx
end
section
namespace Sx
open Go Go.Ab
abbrev dJ:=Bool×List cZ
noncomputable def gC(m:bM)(f:i7)(i:AM)(s:List cZ):List cZ×List cZ×Bool:=(aI 10000 m.recs m.funcs m.imps m.ints m.texts f.1 f.2.1 f.2.2.1 f.2.2.2.1 f.2.2.2.2 i.1 i.2.1 i.2.2 s).getD ([],[],false)
noncomputable def cY(m:bM)(f:i7)(i:AM)(pc:Int)(s:List cZ):FR:=gT f i pc s (gC m f i s)
theorem oA(m:bM)(N H:Nat)(f:i7)(i:AM)(s:List cZ)(hc:dA m=0)(hf:m.funcs[N]?=some f)(O:f.2.2.2.2[H]?=some i)(hs:s.length≤200):
  qbr 10000 m.recs m.funcs m.imps m.ints m.texts (N:Int) (H:Int) s=some (cY m f i (H:Int) s)/\y7 10000 m.recs m.funcs m.imps m.ints m.texts (N:Int) (H:Int) s=some (cY m f i (H:Int) s)/\
   aI 10000 m.recs m.funcs m.imps m.ints m.texts f.1 f.2.1 f.2.2.1 f.2.2.2.1 f.2.2.2.2 i.1 i.2.1 i.2.2 s=some (gC m f i s)/\
   (cY m f i (H:Int) s).1.length≤400/\(cY m f i (H:Int) s).2.1.length≤2/\∀t∈(cY m f i (H:Int) s).2.1,0≤t/\t<(f.2.2.2.2.length:Int):=by
 obtain⟨r,hr,l1,l2,e1,e2⟩:=Qt 10000 m N H f i s hc hf O hs (by omega);have hR:gC m f i s=r:=by unfold gC;rw[hr];rfl
 have hF:cY m f i (H:Int) s=gT f i (H:Int) s r:=by unfold cY;rw[hR]
 have J:=Qr (f:=f) (i:=i) (pc:=(H:Int)) (s:=s) (r:=r) hs l2;rw[hF,hR];refine⟨e1,e2,hr,J.1,J.2,λt ht=>?_⟩;have K:=yk hf;have M:=yk O;have hN:=pH hc K M;have Z:=sE ((iT (eM hc).1).2.2.2.1 f K |>.1 i M);have hA:i.1=23\/i.1=24->i.2.1<(f.2.2.2.2.length:Int):=by
  obtain⟨op,x,y⟩:=i
  rintro(h|h)
  ·simp only at h;subst h;exact of_decide_eq_true (show decide (x<aC f.2.2.2.2)=true from hN)
  ·simp only at h;subst h;exact of_decide_eq_true (show decide (x<aC f.2.2.2.2)=true from hN)
 have hpk:=G8 O;unfold gT at ht;split at ht
 ·cases ht
 ·split at ht
  ·cases ht
  ·rename_i h2;unfold E8 at ht;simp only at ht;split at ht
   ·cases ht
   ·rename_i U;split at ht
    ·rename_i W;obtain rfl:=yh1.1 ht;exact⟨Z.1,hA (.inl W)⟩
    ·rename_i Y;have hlt:(H:Int)+1<(f.2.2.2.2.length:Int):=by
      by_cases h:(H:Int)+1<(f.2.2.2.2.length:Int)
      ·exact h
      ·exact absurd ⟨U,Y,Int.not_lt.1 h⟩ h2
     split at ht
     ·rename_i V;rcases yj1.1 ht with rfl|ht
      ·omega
      ·obtain rfl:=yh1.1 ht;exact⟨Z.1,hA (.inr V)⟩
     ·obtain rfl:=yh1.1 ht;omega
def kV(sh:List dJ)(after:List cZ)(t:Int):Bool:=match aM sh t with|some x=>x.1&&bR after x.2|none=>false
noncomputable def LO(m:bM)(f:i7)(sh:List dJ)(i:AM)(pc:Int)(x:dJ):Bool:=
 !decide (x.2.length>8)&&(!x.1||((cY m f i pc x.2).2.2==0&&(cY m f i pc x.2).2.1.all (kV sh (cY m f i pc x.2).1)))
noncomputable def KM(m:bM)(f:i7)(sh:List dJ)(pc:Nat):Bool:=match sh[pc]?,f.2.2.2.2[pc]? with|some x,some i=>LO m f sh i (pc:Int) x|_,_=>false
noncomputable def JH(m:bM)(f:i7)(sh:List dJ):Bool:=decide (sh.length=f.2.2.2.2.length)&&(match sh with|x::_=>x.1&&!decide (x.2.length>0)| []=>false)&&(List.range sh.length).all (KM m f sh)
noncomputable def Vc(m:bM)(maps:List (List dJ))(k:Nat):Bool:=match maps[k]?,m.funcs[k]? with|some sh,some f=>JH m f sh|_,_=>false
theorem Um{m:bM}{H:List (List dJ)}{k:Nat}{sh:List dJ}{f:i7}(J:H[k]?=some sh)(K:m.funcs[k]?=some f):Vc m H k=JH m f sh:=by unfold Vc;rw[J,K]
noncomputable def Ow(m:bM)(maps:List (List dJ)):Bool:=o6 m&&(decide (maps.length=m.funcs.length)&&(List.range maps.length).all (Vc m maps))
theorem AR{m:bM}(h:o6 m=true):dA m=0:=by
 unfold o6 at h;rw[yc]at h;exact beq_iff_eq.1 h.1
end Sx
end
section
namespace Sx
open Go Go.Ab
def KP(t:cZ):Prop:=((t.1=1\/t.1=2\/t.1=3\/t.1=6\/t.1=7\/t.1=8)/\t.2=0)\/t.1=4\/t.1=5
def H8(s:List cZ):Prop:= ∀t∈s,KP t
def H6(t:cZ):Nat:=if t.1=8 then 3 else if t.1=7 then 2 else if t.1=6 then 0 else 1
def dQ(a b:cZ):cZ:=if f7 a b=true then b else if f7 b a=true then a else if rF a=true/\rF b=true then(7,0)else(8,0)
theorem B9{recs:Int}{t:cZ}(h:rH recs t=true):KP t:=by
 unfold rH at h;unfold KP;split at h
 ·rename_i H;have:=eq_of_beq h;rcases H with H|H|H|H
  ·exact .inl ⟨.inl H,this⟩
  ·exact .inl ⟨.inr (.inl H),this⟩
  ·exact .inl ⟨.inr (.inr (.inl H)),this⟩
  ·exact .inl ⟨.inr (.inr (.inr (.inr (.inl H)))),this⟩
 ·split at h
  ·exact .inr (.inl (by assumption))
  ·split at h
   ·exact .inr (.inr (by assumption))
   ·cases h
theorem Ll{a b:cZ}(V:KP a)(hb:KP b):KP (dQ a b)/\f7 a (dQ a b)=true/\f7 b (dQ a b)=true/\H6 (dQ a b)≤3/\H6 a≤H6 (dQ a b)/\(dQ a b≠a->H6 a<H6 (dQ a b)):=by
 have K: ∀t:cZ,H6 t≤3:=λt=>by unfold H6;split<;>(try split)<;>(try split)<;>omega
 have key: ∀j:cZ,KP j->f7 a j=true->H6 a≤H6 j/\(j≠a->H6 a<H6 j):=by
  intro j hj hs;rcases(fP a j).1 hs with rfl|h8|⟨r1,r2,r3⟩
  ·exact⟨ya1 _,λh=>absurd rfl h⟩
  ·have O:H6 j=3:=by unfold H6;rw[if_pos h8]
   refine⟨by rw[O];exact K a,λH=>?_⟩;rw[O];by_cases W:a.1=8
   ·exfalso;apply H;unfold KP at V hj;have e1:a.2=0:=by omega
    have e2:j.2=0:=by omega
    exact Prod.ext (by omega) (by omega)
   ·unfold H6;rw[if_neg W];split
    ·omega
    ·split<;>omega
  ·rw[FT]at r1 r2;have U:a.1≠8:=by omega
   have M:j.1≠8:=by omega
   unfold H6;rw[if_neg U,if_neg M];by_cases N:a.1=7
   ·have J:j.1=7:=by omega
    rw[if_pos N,if_pos J];refine⟨ya1 _,λH=>absurd (Prod.ext (by omega) ?_) H⟩;unfold KP at V hj;omega
   ·rw[if_neg N];by_cases J:j.1=7
    ·rw[if_pos J];exact⟨by split<;>omega,λ_=>by split<;>omega⟩
    ·have ha6:a.1=6:=by omega
     rw[if_neg J,if_pos ha6];refine⟨Nat.zero_le _,λH=>?_⟩;split
     ·rename_i hj6;exfalso;apply H;unfold KP at V hj;exact Prod.ext (by omega) (by omega)
     ·omega
 have hw:KP (dQ a b)/\f7 a (dQ a b)=true/\f7 b (dQ a b)=true:=by
  unfold dQ;by_cases Y:f7 a b=true
  ·rw[if_pos Y];exact⟨hb,Y,lU b⟩
  ·rw[if_neg Y];by_cases Z:f7 b a=true
   ·rw[if_pos Z];exact⟨V,lU a,Z⟩
   ·rw[if_neg Z];by_cases K:rF a=true/\rF b=true
    ·rw[if_pos K];exact⟨.inl ⟨.inr (.inr (.inr (.inr (.inl rfl)))),rfl⟩,(fP _ _).2 (.inr (.inr ⟨K.1,rfl,.inr rfl⟩)),(fP _ _).2 (.inr (.inr ⟨K.2,rfl,.inr rfl⟩))⟩
    ·rw[if_neg K];exact⟨.inl ⟨.inr (.inr (.inr (.inr (.inr rfl)))),rfl⟩,(fP _ _).2 (.inr (.inl rfl)),(fP _ _).2 (.inr (.inl rfl))⟩
 obtain⟨w1,w2,w3⟩:=hw;obtain⟨k1,k2⟩:=key _ w1 w2;exact⟨w1,w2,w3,K _,k1,k2⟩
theorem Np{m:bM}(h:fI m=true):(∀f∈m.funcs,H8 f.1/\KP (f.2.1,f.2.2.1)/\H8 f.2.2.2.1)/\(∀i∈m.imps,KP (i.2.1,i.2.2))/\∀l∈m.recs,H8 l:=by
 simp only[fI,yc,decide_eq_true_eq,yf1]at h;obtain⟨_,K,_,_,M,_,N,_⟩:=h;refine⟨λf hf=>?_,λi J=>?_,λl H=>?_⟩
 ·have:=M f hf;simp only[BG,fO,yc,yf1]at this;exact⟨λt ht=>B9 (this.1.2 t ht),B9 this.2.1,λt ht=>B9 (this.2.2.1.2 t ht)⟩
 ·have:=N i J;simp only[Ln,yc]at this;exact B9 this.2
 ·have:=K l H;simp only[fO,yc,yf1]at this;exact λt ht=>B9 (this.2 t ht)
theorem Qu{a l:List cZ}(K:H8 a)(J:H8 l)(k:Int):KP (Cy a l k):=by
 unfold Cy;split
 ·rename_i h;have H:k.toNat<(a++l).length:=by rw[yi];omega
  rw[ym,yf H];have:=yk2 H;rcases yn1.1 this with h|h
  ·exact K _ h
  ·exact J _ h
 ·exact .inl ⟨.inr (.inr (.inr (.inr (.inr rfl)))),rfl⟩
theorem Bb{t:cZ}(h:KP t):H8 [t]:=λx H=>by rw[yh1.1 H];exact h
theorem Va{t u:cZ}(h:KP t)(J:KP u):H8 [t,u]:=λx H=>by
 rcases yj1.1 H with rfl|H
 ·exact h
 ·rw[yh1.1 H];exact J
theorem MF:H8 []:=λx H=>by cases H
theorem Dd(k:Int)(h:k=1\/k=2\/k=3\/k=6\/k=7\/k=8):KP (k,0):= .inl ⟨h,rfl⟩
theorem S9(n:Nat)(m:bM)(f:i7)(i:AM)(s:List cZ)(r:List cZ×List cZ×Bool)(hc:dA m=0)(hf:f∈m.funcs)(hi:i∈f.2.2.2.2)(hs:s.length≤200)(Y:H8 s)
  (hr:aI n m.recs m.funcs m.imps m.ints m.texts f.1 f.2.1 f.2.2.1 f.2.2.2.1 f.2.2.2.2 i.1 i.2.1 i.2.2 s=some r):H8 r.2.1:=by
 obtain⟨hF,hB⟩:=eM hc;obtain⟨k1,k2,k3,k4,k5⟩:=iT hF;obtain⟨g1,g2,g3⟩:=Np hF;have hN:=pH hc hf hi;have N:=(k4 f hf).1 i hi;have hfl:=k4 f hf;have K:=sE N;unfold oY at N;have N:=of_decide_eq_false N;have ha:=wH (op:=i.1) (by omega);obtain⟨op,x,y⟩:=i;simp only at K;have hk:op=0\/op=1\/op=2\/op=3\/op=4\/op=5\/op=6\/op=7\/op=8\/op=9\/op=10\/op=11\/op=12\/op=13\/op=14\/op=15\/op=16\/op=17\/op=18\/op=19\/op=20\/op=21\/op=22\/op=23\/op=24\/op=25\/op=26\/op=27\/op=28\/op=29\/op=30\/op=31\/op=32\/op=33\/op=34\/op=35\/op=36\/op=37\/op=38\/op=39\/op=40\/op=41:=by simp only at ha;omega
 rcases hk with rfl|rfl|rfl|rfl|rfl|rfl|rfl|rfl|rfl|rfl|rfl|rfl|rfl|rfl|rfl|rfl|rfl|rfl|rfl|rfl|rfl|rfl|rfl|rfl|rfl|rfl|rfl|rfl|rfl|rfl|rfl|rfl|rfl|rfl|rfl|rfl|rfl|rfl|rfl|rfl|rfl|rfl
 ·obtain rfl:=ya hr;exact Bb (Dd 1 (by omega))
 ·obtain rfl:=ya hr;exact Bb (Dd 2 (by omega))
 ·obtain rfl:=ya hr;exact Bb (Dd 6 (by omega))
 ·simp only[aI,Int.reduceBEq,yh,yg,j7 n f.1 f.2.1 f.2.2.1 f.2.2.2.1 f.2.2.2.2 x (by omega),yb]at hr;obtain rfl:=ya hr;exact Bb (Qu (g1 f hf).1 (g1 f hf).2.2 x)
 ·simp only[aI,Int.reduceBEq,yh,yg,j7 n f.1 f.2.1 f.2.2.1 f.2.2.2.1 f.2.2.2.2 x (by omega),yb]at hr;obtain rfl:=ya hr;exact MF
 ·obtain rfl:=ya hr;exact MF
 ·simp only[aI,Int.reduceBEq,yh,yg]at hr;by_cases h:1≤s.length
  ·obtain⟨q,t,rfl⟩:=l8 h;rw[yi,yl1]at hs;have U:aM (q++ [t]) (bO .i64 (aC (q++ [t])) 1)=some t:=b7 q [t] 1 0 (by simp;omega) rfl (by omega) (by simp);have J:bO .i64 (aC (q++ [t])) 1=((q.length:Nat):Int):=by
    rw[aD,yi,cT (by simp<;>omega) (by simp<;>omega)];simp
   rw[U,J,aD,yi,yl1,decide_eq_false (by omega),decide_eq_true (by omega),decide_eq_true (by omega)]at hr;simp only[yg,yh,yb,yi1,yy]at hr;obtain rfl:=ya hr;have ht:=Y t (by simp);exact Va ht ht
  ·rw[aD,decide_eq_true (by omega)]at hr;obtain rfl:=ya hr;exact MF
 ·simp only[aI,Int.reduceBEq,yh,yg]at hr;by_cases h:2≤s.length
  ·obtain⟨q,t,u,rfl⟩:=BP h;rw[yi]at hs;simp only[yz,yz2]at hs;have W:aM (q++ [t,u]) (bO .i64 (aC (q++ [t,u])) 1)=some u:=b7 q [t,u] 1 1 (by simp;omega) rfl (by omega) (by simp);have Z:aM (q++ [t,u]) (bO .i64 (aC (q++ [t,u])) 2)=some t:=b7 q [t,u] 2 0 (by simp;omega) rfl (by omega) (by simp);have J:bO .i64 (aC (q++ [t,u])) 2=((q.length:Nat):Int):=by
    rw[aD,yi,cT (by simp<;>omega) (by simp<;>omega)];simp
   rw[W,Z,J,aD,yi]at hr;simp only[yz,yz2]at hr;rw[decide_eq_false (by omega),decide_eq_true (by omega),decide_eq_true (by omega)]at hr;simp only[yg,yh,yb,yi1,yy]at hr;obtain rfl:=ya hr;exact Va (Y u (by simp)) (Y t (by simp))
  ·rw[aD,decide_eq_true (by omega)]at hr;obtain rfl:=ya hr;exact MF
 ·obtain rfl:=ya hr;exact Bb (Dd 1 (by omega))
 ·obtain rfl:=ya hr;exact Bb (Dd 1 (by omega))
 ·obtain rfl:=ya hr;exact Bb (Dd 1 (by omega))
 ·obtain rfl:=ya hr;exact Bb (Dd 1 (by omega))
 ·obtain rfl:=ya hr;exact Bb (Dd 1 (by omega))
 ·obtain rfl:=ya hr;exact Bb (Dd 1 (by omega))
 ·obtain rfl:=ya hr;exact Bb (Dd 1 (by omega))
 ·obtain rfl:=ya hr;exact Bb (Dd 1 (by omega))
 ·obtain rfl:=ya hr;exact Bb (Dd 1 (by omega))
 ·obtain rfl:=ya hr;exact Bb (Dd 1 (by omega))
 ·obtain rfl:=ya hr;exact Bb (Dd 1 (by omega))
 ·obtain rfl:=ya hr;exact Bb (Dd 1 (by omega))
 ·obtain rfl:=ya hr;exact Bb (Dd 1 (by omega))
 ·obtain rfl:=ya hr;exact Bb (Dd 1 (by omega))
 ·obtain rfl:=ya hr;exact Va (Dd 1 (by omega)) (Dd 1 (by omega))
 ·obtain rfl:=ya hr;exact MF
 ·obtain rfl:=ya hr;exact MF
 ·have H:x<(m.funcs.length:Int):=of_decide_eq_true (show decide (x<aC m.funcs)=true from hN);obtain⟨a,e,hm⟩:=gS K.1 H;simp only[aI,Int.reduceBEq,yh,yg,e,yb]at hr;obtain rfl:=ya hr;exact Bb (g1 a hm).2.1
 ·obtain rfl:=ya hr;exact MF
 ·have H:x<(m.imps.length:Int):=of_decide_eq_true (show decide (x<aC m.imps)=true from hN);obtain⟨a,e,hm⟩:=gS K.1 H;simp only[aI,Int.reduceBEq,yh,yg,e,yb]at hr;obtain rfl:=ya hr;exact Bb (g2 a hm)
 ·have H:x<(m.recs.length:Int):=of_decide_eq_true (show decide (x<aC m.recs)=true from hN);obtain⟨a,e,hm⟩:=gS K.1 H;simp only[aI,Int.reduceBEq,yh,yg,e,yb]at hr;obtain rfl:=ya hr;exact Bb (.inr (.inl rfl))
 ·have hN:(bif decide (x<aC m.recs)then(aM m.recs x).bind λl=>some (decide (y<aC l))else some false).getD false=true:=hN;by_cases H:x<(m.recs.length:Int)
  ·rw[aD,decide_eq_true H,yg]at hN;obtain⟨a,e,hm⟩:=gS K.1 H;rw[e]at hN;have O:y<(a.length:Int):=of_decide_eq_true hN;obtain⟨b,V,M⟩:=gS K.2.2.1 O;simp only[aI,Int.reduceBEq,yh,yg,e,V,yb]at hr;obtain rfl:=ya hr;exact Bb (g3 a hm b M)
  ·rw[aD,decide_eq_false H]at hN;cases hN
 ·have hN:(bif decide (x<aC m.recs)then(aM m.recs x).bind λl=>some (decide (y<aC l))else some false).getD false=true:=hN;by_cases H:x<(m.recs.length:Int)
  ·rw[aD,decide_eq_true H,yg]at hN;obtain⟨a,e,hm⟩:=gS K.1 H;rw[e]at hN;have O:y<(a.length:Int):=of_decide_eq_true hN;obtain⟨b,V,M⟩:=gS K.2.2.1 O;simp only[aI,Int.reduceBEq,yh,yg,e,V,yb]at hr;obtain rfl:=ya hr;exact MF
  ·rw[aD,decide_eq_false H]at hN;cases hN
 ·obtain rfl:=ya hr;exact Bb (Dd 3 (by omega))
 ·obtain rfl:=ya hr;exact Bb (Dd 1 (by omega))
 ·obtain rfl:=ya hr;exact MF
 ·obtain rfl:=ya hr;exact Bb (Dd 1 (by omega))
 ·obtain rfl:=ya hr;exact Bb (Dd 2 (by omega))
 ·obtain rfl:=ya hr;exact Bb (Dd 1 (by omega))
 ·obtain rfl:=ya hr;exact MF
 ·obtain rfl:=ya hr;exact Bb (Dd 1 (by omega))
 ·obtain rfl:=ya hr;exact Bb (Dd 1 (by omega))
 ·obtain rfl:=ya hr;exact Bb (Dd 1 (by omega))
 ·simp only[aI,Int.reduceBEq,yh,yg]at hr;by_cases h:1≤s.length
  ·obtain⟨q,t,rfl⟩:=l8 h;rw[yi,yl1]at hs;have U:aM (q++ [t]) (bO .i64 (aC (q++ [t])) 1)=some t:=b7 q [t] 1 0 (by simp;omega) rfl (by omega) (by simp);have J:bO .i64 (aC (q++ [t])) 1=((q.length:Nat):Int):=by
    rw[aD,yi,cT (by simp<;>omega) (by simp<;>omega)];simp
   rw[U,J,aD,yi,yl1,decide_eq_false (by omega),decide_eq_true (by omega),decide_eq_true (by omega)]at hr;simp only[yg,yh,yb,yi1,yy]at hr;cases h5:t.1 !=5<;>rw[h5]at hr<;>(obtain rfl:=ya hr;exact MF)
  ·rw[aD,decide_eq_true (by omega)]at hr;obtain rfl:=ya hr;exact MF
theorem LL{m:bM}{M H:Nat}{f:i7}{i:AM}{s:List cZ}(hc:dA m=0)(hf:m.funcs[M]?=some f)(J:f.2.2.2.2[H]?=some i)(hs:s.length≤200)(K:H8 s):H8 (cY m f i (H:Int) s).1/\(cY m f i (H:Int) s).1.length≤8:=by
 obtain⟨_,_,hr,_,_,_⟩:=oA m M H f i s hc hf J hs;have N:=S9 10000 m f i s _ hc (yk hf) (yk J) hs K hr;unfold cY gT;split
 ·exact⟨MF,by simp⟩
 ·rename_i h;split
  ·exact⟨MF,by simp⟩
  ·refine⟨λt ht=>?_,?_⟩
   ·rcases yn1.1 ht with h|h
    ·exact K t (yf3 h)
    ·exact N t h
   ·simp only[yi,yn2];have: ¬(s.length-(gC m f i s).1.length+(gC m f i s).2.1.length>8):=λO=>h (.inr (.inr (.inl O)));omega
end Sx
end
section
namespace Sx
open Go Go.Ab
def CG:List cZ->Nat
 | []=>0
 |t::r=>H6 t+CG r
def eJ:List cZ->List cZ->List cZ
 |x::s,y::a=>dQ x y::eJ s a
 |_,_=> []
theorem pE(x y:cZ)(s a:List cZ):bR (x::s) (y::a)=(f7 x y&&bR s a):=by
 unfold bR TY;simp only[yz,List.zip_cons_cons,ym3,Nat.add_right_cancel_iff];cases f7 x y<;>cases decide (s.length=a.length)<;>rfl
theorem Ea: ∀(s a:List cZ),s.length=a.length->H8 s->H8 a->H8 (eJ s a)/\(eJ s a).length=s.length/\bR s (eJ s a)=true/\bR a (eJ s a)=true/\CG s≤CG (eJ s a)/\
  (eJ s a≠s->CG s<CG (eJ s a))
 | [],[],_,_,_=>⟨MF,rfl,rfl,rfl,ya1 _,λh=>absurd rfl h⟩
 |x::s,y::a,H,hs,M=>by
  have J:s.length=a.length:=by simpa using H
  obtain⟨Y,i2,U,W,i5,N⟩:=Ea s a J (λt ht=>hs t (yj _ ht)) (λt ht=>M t (yj _ ht));obtain⟨V,Z,j3,j4,j5,j6⟩:=Ll (hs x (yn ..)) (M y (yn ..));refine⟨λt ht=>?_,by simp[eJ,i2],?_,?_,?_,λh=>?_⟩
  ·rcases yj1.1 ht with rfl|ht
   ·exact V
   ·exact Y t ht
  ·show bR (x::s) (dQ x y::eJ s a)=true;rw[pE,Z,U];rfl
  ·show bR (y::a) (dQ x y::eJ s a)=true;rw[pE,j3,W];rfl
  ·show H6 x+CG s≤H6 (dQ x y)+CG (eJ s a);omega
  ·show H6 x+CG s<H6 (dQ x y)+CG (eJ s a);by_cases K:dQ x y=x
   ·have:eJ s a≠s:=λO=>h (by show dQ x y::eJ s a=x::s;rw[K,O]);have:=N this;omega
   ·have:=j6 K;omega
 | [],_::_,H,_,_=>by simp at H
 |_::_,[],H,_,_=>by simp at H
theorem Ub(t:cZ):H6 t≤3:=by unfold H6;split<;>(try omega);split<;>(try omega);split<;>omega
theorem Pc: ∀s:List cZ,CG s≤3*s.length
 | []=>by simp[CG]
 |t::r=>by
  have:=Pc r;have:=Ub t;simp only[CG,yz];omega
theorem gI{a b:List cZ}(h:bR a b=true):a.length=b.length:=(jE h).1
def Rr(x:dJ):Nat:=if x.1=true then 1+CG x.2 else 0
def mu:List dJ->Nat
 | []=>0
 |x::r=>Rr x+mu r
theorem Nb: ∀(l:List dJ) (k:Nat) (x v:dJ),l[k]?=some x->mu (l.set k v)+Rr x=mu l+Rr v
 | [],k,x,v,h=>by simp at h
 |y::r,0,x,v,h=>by
  obtain rfl:y=x:=by simpa using h
  simp only[List.set_cons_zero,mu];omega
 |y::r,k+1,x,v,h=>by
  have:=Nb r k x v (by simpa using h);simp only[List.set_cons_succ,mu];omega
structure KG (L:Nat) (mp:List dJ):Prop where
 len:mp.length=L
 fst:mp[0]?=some (true,[])
 all: ∀x∈mp,H8 x.2/\x.2.length≤8
theorem O8: ∀(l:List dJ),(∀x∈l,H8 x.2/\x.2.length≤8)->mu l≤25*l.length
 | [],_=>by simp[mu]
 |x::r,h=>by
  have h1:=O8 r λy H=>h y (yj _ H);have h2:=(h x (yn ..)).2;have h3:=Pc x.2;have h4:Rr x≤25:=by unfold Rr;split<;>omega
  simp only[mu,yz];omega
def Ap(a b:List dJ):Prop:=a.length=b.length/\∀(k:Nat) (x:dJ),a[k]?=some x->∃y:dJ,b[k]?=some y/\(x.1=true->y.1=true/\bR x.2 y.2=true)
theorem Ap.refl(a:List dJ):Ap a a:=⟨rfl,λk x h=>⟨x,h,λH=>⟨H,pO _⟩⟩⟩
theorem Ap.trans{a b c:List dJ}(h:Ap a b)(H:Ap b c):Ap a c:=⟨h.1.trans H.1,λk x M=>by
 obtain⟨y,K,f⟩:=h.2 k x M;obtain⟨z,J,g⟩:=H.2 k y K
 exact⟨z,J,λe=>⟨(g (f e).1).1,sQ (f e).2 (g (f e).1).2⟩⟩⟩
structure N7 (c:Bool) (a:List dJ) (c':Bool) (b:List dJ):Prop where
 le:Ap a b
 or:(c'=c/\b=a)\/(c'=true/\mu a<mu b)
theorem N7.refl(c:Bool)(a:List dJ):N7 c a c a:=⟨Ap.refl a,.inl ⟨rfl,rfl⟩⟩
theorem N7.trans{c K J:Bool}{a b d:List dJ}(h:N7 c a K b)(H:N7 K b J d):N7 c a J d:=⟨h.le.trans H.le,by
 rcases h.or with ⟨rfl,rfl⟩|⟨N,O⟩
 ·exact H.or
 ·rcases H.or with ⟨rfl,rfl⟩|⟨M,h4⟩
  ·exact .inr ⟨N,O⟩
  ·exact .inr ⟨M,by omega⟩⟩
theorem RX{L:Nat}{mp:List dJ}(hI:KG L mp){k:Nat}{x v:dJ}(H:mp[k]?=some x)(hv:H8 v.2)(h8:v.2.length≤8)(W:v.1=true)(N:x.1=true->bR x.2 v.2=true)(U:Rr x<Rr v)(c:Bool):
  KG L (mp.set k v)/\N7 c mp true (mp.set k v)/\(mp.set k v)[k]?=some v:=by
 have K:k<mp.length:=(yd.1 H).1;have O:(mp.set k v)[k]?=some v:=by rw[yt K]
 refine⟨⟨by rw[yt2];exact hI.len,?_,λy J=>?_⟩,⟨⟨by rw[yt2],λj y J=>?_⟩,.inr ⟨rfl,?_⟩⟩,O⟩
 ·by_cases M:k=0
  ·subst M;rw[hI.fst]at H;obtain rfl:=ya H;exfalso;have Y:=gI (N rfl);have Z:v.2= []:=List.length_eq_zero_iff.1 Y.symm;have h4:v=(true,[]):=Prod.ext W Z;rw[h4]at U;exact yj4 _ U
  ·rw[yo M];exact hI.fst
 ·rcases yi2 J with h|rfl
  ·exact hI.all y h
  ·exact⟨hv,h8⟩
 ·by_cases V:k=j
  ·subst V;rw[H]at J;obtain rfl:=ya J;exact⟨v,O,λe=>⟨W,N e⟩⟩
  ·exact⟨y,by rw[yo V];exact J,λe=>⟨e,pO _⟩⟩
 ·have:=Nb mp k x v H;omega
theorem IN{a b:List dJ}(h:Ap a b){s:List cZ}{t:Int}(hn:kV a s t=true):kV b s t=true:=by
 unfold kV at hn⊢
 cases J:aM a t with
 |none=>rw[J]at hn;cases hn
 |some x=>
  rw[J]at hn;simp only[yc]at hn;have H:0≤t/\a[t.toNat]?=some x:=by
   unfold aM at J;by_cases K:0≤t
   ·refine⟨K,?_⟩;simpa[K]using J
   ·simp[K]at J
  obtain⟨y,M,f⟩:=h.2 _ x H.2;have:aM b t=some y:=by
   obtain⟨k,rfl⟩:=yn3 H.1;rw[aP];simpa using M
  rw[this];simp only[yc];exact⟨(f hn.1).1,sQ hn.2 (f hn.1).2⟩
end Sx
end
section
namespace Sx
open Go Go.Ab
theorem PF(n:Nat)(m:bM)(f:i7)(i:AM)(a b:List cZ)(J:oY i=false)(K:i.1≠6)(M:i.1≠7)(H:i.1≠41):
  aI n m.recs m.funcs m.imps m.ints m.texts f.1 f.2.1 f.2.2.1 f.2.2.2.1 f.2.2.2.2 i.1 i.2.1 i.2.2 a=aI n m.recs m.funcs m.imps m.ints m.texts f.1 f.2.1 f.2.2.1 f.2.2.2.1 f.2.2.2.2 i.1 i.2.1 i.2.2 b:=by
 unfold oY at J;have J:=of_decide_eq_false J;have N:=wH (op:=i.1) (by omega);obtain⟨op,x,y⟩:=i;have O:op=0\/op=1\/op=2\/op=3\/op=4\/op=5\/op=6\/op=7\/op=8\/op=9\/op=10\/op=11\/op=12\/op=13\/op=14\/op=15\/op=16\/op=17\/op=18\/op=19\/op=20\/op=21\/op=22\/op=23\/op=24\/op=25\/op=26\/op=27\/op=28\/op=29\/op=30\/op=31\/op=32\/op=33\/op=34\/op=35\/op=36\/op=37\/op=38\/op=39\/op=40\/op=41:=by simp only at N;omega
 rcases O with rfl|rfl|rfl|rfl|rfl|rfl|rfl|rfl|rfl|rfl|rfl|rfl|rfl|rfl|rfl|rfl|rfl|rfl|rfl|rfl|rfl|rfl|rfl|rfl|rfl|rfl|rfl|rfl|rfl|rfl|rfl|rfl|rfl|rfl|rfl|rfl|rfl|rfl|rfl|rfl|rfl|rfl
 ·rfl
 ·rfl
 ·rfl
 ·rfl
 ·rfl
 ·rfl
 ·exact absurd rfl K
 ·exact absurd rfl M
 ·rfl
 ·rfl
 ·rfl
 ·rfl
 ·rfl
 ·rfl
 ·rfl
 ·rfl
 ·rfl
 ·rfl
 ·rfl
 ·rfl
 ·rfl
 ·rfl
 ·rfl
 ·rfl
 ·rfl
 ·rfl
 ·rfl
 ·rfl
 ·rfl
 ·rfl
 ·rfl
 ·rfl
 ·rfl
 ·rfl
 ·rfl
 ·rfl
 ·rfl
 ·rfl
 ·rfl
 ·rfl
 ·rfl
 ·exact absurd rfl H
theorem rP{s inn:List cZ}(hl:inn.length≤s.length):kE s inn=true↔∀j (M:j<inn.length),f7 (s[s.length-inn.length+j]'(by omega)) inn[j]=true:=by
 unfold kE;rw[yf1];constructor
 ·intro h j M;have hd:j<(s.drop (s.length-inn.length)).length:=by rw[yb4];omega
  have:=h (inn[j],(s.drop (s.length-inn.length))[j]) (by
   have H:j<(inn.zip (s.drop (s.length-inn.length))).length:=by rw[List.length_zip];omega
   have:(inn.zip (s.drop (s.length-inn.length)))[j]=(inn[j],(s.drop (s.length-inn.length))[j]):=by rw[yc4]
   rw[<-this];exact yk2 H)
  simp only[List.getElem_drop]at this;exact this
 ·intro h q J;obtain⟨j,K,rfl⟩:=yx1 J;rw[List.length_zip]at K;rw[yc4];simp only[List.getElem_drop];exact h j (by omega)
theorem Ov{a b inn:List cZ}(h:bR a b=true)(hl:inn.length≤b.length)(ht:kE b inn=true):kE a inn=true:=by
 obtain⟨l,e⟩:=jE h;rw[rP (by omega)]at ht⊢
 intro j J;have:=ht j J;have K:=e (b.length-inn.length+j) (by omega) (by omega);have H:a.length-inn.length+j=b.length-inn.length+j:=by omega
 simp only[H];exact F6 K this
theorem M0{a b:List cZ}(k:Nat)(h:bR a b=true):bR (a.take k) (b.take k)=true:=by
 obtain⟨l,e⟩:=jE h;refine HG (by simp[l]) λi H J=>?_;rw[List.getElem_take,List.getElem_take];rw[yn2]at H J;exact e i (by omega) (by omega)
theorem QA{a b c d:List cZ}(h:bR a b=true)(N:bR c d=true):bR (a++c) (b++d)=true:=by
 obtain⟨l,e⟩:=jE h;obtain⟨K,O⟩:=jE N;refine HG (by simp[l,K]) λi M U=>?_;rw[yi]at M U;by_cases J:i<a.length
 ·rw[List.getElem_append_left J,List.getElem_append_left (by omega)];exact e i J (by omega)
 ·rw[yd3 (by omega),yd3 (by omega)];have H:i-b.length=i-a.length:=by omega
  simp only[H];exact O (i-a.length) (by omega) (by omega)
abbrev Ut:=List cZ×List cZ×Bool
theorem Ht{f:i7}{i:AM}{pc:Int}{s:List cZ}{r:Ut}(h:(gT f i pc s r).2.2=0):r.2.2=true/\r.1.length≤s.length/\s.length-r.1.length+r.2.1.length≤8/\kE s r.1=true/\
  ¬(i.1≠26/\i.1≠23/\pc+1≥(f.2.2.2.2.length:Int))/\gT f i pc s r=(s.take (s.length-r.1.length)++r.2.1,E8 i pc,0):=by
 unfold gT at h⊢
 by_cases H:r.2.2=false\/s.length<r.1.length\/s.length-r.1.length+r.2.1.length>8\/kE s r.1=false
 ·rw[if_pos H]at h;cases h
 ·rw[if_neg H]at h⊢
  by_cases K:i.1≠26/\i.1≠23/\pc+1≥(f.2.2.2.2.length:Int)
  ·rw[if_pos K]at h;cases h
  ·rw[if_neg K];refine⟨?_,?_,?_,?_,K,rfl⟩
   ·cases J:r.2.2 with
    |true=>rfl
    |false=>exact absurd (.inl J) H
   ·rcases yl2 s.length r.1.length with h|h
    ·exact absurd (.inr (.inl h)) H
    ·exact h
   ·rcases yl2 8 (s.length-r.1.length+r.2.1.length)with h|h
    ·exact absurd (.inr (.inr (.inl h))) H
    ·exact h
   ·cases J:kE s r.1 with
    |true=>rfl
    |false=>exact absurd (.inr (.inr (.inr J))) H
theorem Q5{f:i7}{i:AM}{pc:Int}{s:List cZ}{r:Ut}(K:r.2.2=true)(h2:r.1.length≤s.length)(h3:s.length-r.1.length+r.2.1.length≤8)(H:kE s r.1=true)
    (J: ¬(i.1≠26/\i.1≠23/\pc+1≥(f.2.2.2.2.length:Int))):gT f i pc s r=(s.take (s.length-r.1.length)++r.2.1,E8 i pc,0):=by
  unfold gT
  rw [if_neg (by rintro (h | h | h | h); · rw [K] at h; cases h
                 · omega
                 · omega
                 · rw[H]at h;cases h),if_neg J]
theorem NO{f:i7}{i:AM}{pc:Int}{a b:List cZ}{H J:Ut}(K:bR a b=true)(O:(gT f i pc b J).2.2=0)(N:H.2.2=true)(h2:H.1.length=J.1.length)(M:bR H.2.1 J.2.1=true)(V:kE a H.1=true):
  (gT f i pc a H).2.2=0/\bR (gT f i pc a H).1 (gT f i pc b J).1=true/\(gT f i pc a H).2.1=(gT f i pc b J).2.1:=by
 obtain⟨k1,k2,k3,k4,U,W⟩:=Ht O;have hl:=(jE K).1;have Y:=(jE M).1;rw[Q5 N (by omega) (by omega) V U,W];refine⟨rfl,?_,rfl⟩;simp only;rw[show a.length-H.1.length=b.length-J.1.length by omega];exact QA (M0 _ K) M
theorem Hs{r q:List cZ}{x y:cZ}(h:bR (r++ [x]) (q++ [y])=true):f7 x y=true:=by
 obtain⟨l,e⟩:=jE h;simp at l;have:=e r.length (by simp) (by simp;omega);rw[yd3 (by omega),yd3 (by omega)]at this;simpa[l]using this
theorem QJ{r q:List cZ}{x y u v:cZ}(h:bR (r++ [x,u]) (q++ [y,v])=true):f7 x y=true/\f7 u v=true:=by
 have H:bR ((r++ [x])++ [u]) ((q++ [y])++ [v])=true:=by simpa using h
 refine⟨?_,Hs H⟩;obtain⟨l,e⟩:=jE h;simp at l;have:=e r.length (by simp) (by simp;omega);rw[yd3 (by omega),yd3 (by omega)]at this;simpa[l]using this
theorem M5(n:Nat)(m:bM)(f:i7)(i:AM)(a b:List cZ)(O N:Ut)(hbad:oY i=false)(hs:b.length≤200)(K:bR a b=true)
  (ea:aI n m.recs m.funcs m.imps m.ints m.texts f.1 f.2.1 f.2.2.1 f.2.2.2.1 f.2.2.2.2 i.1 i.2.1 i.2.2 a=some O) (eb:aI n m.recs m.funcs m.imps m.ints m.texts f.1 f.2.1 f.2.2.1 f.2.2.2.1 f.2.2.2.2 i.1 i.2.1 i.2.2 b=some N)
  (J:N.2.2=true) (hle:N.1.length≤b.length) (ht:kE b N.1=true):O.2.2=true/\O.1.length=N.1.length/\bR O.2.1 N.2.1=true/\kE a O.1=true:=by
 have hl:=(jE K).1;by_cases h6:i.1=6
 ·obtain⟨op,x,y⟩:=i;simp only at h6;subst h6;have Y: ∀(s:List cZ) (r:Ut),s.length≤200->aI n m.recs m.funcs m.imps m.ints m.texts f.1 f.2.1 f.2.2.1 f.2.2.2.1 f.2.2.2.2 6 x y s=some r->(s= []/\r=([],[],false))\/∃q t,s=q++ [t]/\r=([t],[t,t],true):=by
   intro s r hs hr;simp only[aI,Int.reduceBEq,yh,yg]at hr;by_cases h:1≤s.length
   ·obtain⟨q,t,rfl⟩:=l8 h;rw[yi,yl1]at hs;have hg:aM (q++ [t]) (bO .i64 (aC (q++ [t])) 1)=some t:=b7 q [t] 1 0 (by simp;omega) rfl (by omega) (by simp);have H:bO .i64 (aC (q++ [t])) 1=((q.length:Nat):Int):=by
     rw[aD,yi,cT (by simp<;>omega) (by simp<;>omega)];simp
    rw[hg,H,aD,yi,yl1,decide_eq_false (by omega),decide_eq_true (by omega),decide_eq_true (by omega)]at hr;simp only[yg,yh,yb,yi1,yy]at hr;rw[yh2 (by simp),yo3]at hr;exact .inr ⟨q,t,rfl,(ya hr).symm⟩
   ·left;have:s= []:=yu (by omega);rw[aD,decide_eq_true (by omega)]at hr;exact⟨this,(ya hr).symm⟩
  rcases Y b N hs eb with ⟨_,rfl⟩|⟨q,t,rfl,rfl⟩
  ·cases J
  ·rcases Y a O (by omega) ea with ⟨rfl,rfl⟩|⟨p,u,rfl,rfl⟩
   ·simp at hl
   ·have H:=Hs K;refine⟨rfl,rfl,HG rfl λj M h2=>?_,(rP (by simp)).2 λj M=>?_⟩
    ·match j,M with
     |0,_=>exact H
     |1,_=>exact H
    ·simp at M;subst M;simp[lU]
 ·by_cases h7:i.1=7
  ·obtain⟨op,x,y⟩:=i;simp only at h7;subst h7;have Z: ∀(s:List cZ) (r:Ut),s.length≤200->aI n m.recs m.funcs m.imps m.ints m.texts f.1 f.2.1 f.2.2.1 f.2.2.2.1 f.2.2.2.2 7 x y s=some r->(s.length<2/\r=([],[],false))\/∃q t u,s=q++ [t,u]/\r=([t,u],[u,t],true):=by
    intro s r hs hr;simp only[aI,Int.reduceBEq,yh,yg]at hr;by_cases h:2≤s.length
    ·obtain⟨q,t,u,rfl⟩:=BP h;rw[yi]at hs;simp only[yz,yz2]at hs;have hg1:aM (q++ [t,u]) (bO .i64 (aC (q++ [t,u])) 1)=some u:=b7 q [t,u] 1 1 (by simp;omega) rfl (by omega) (by simp);have hg2:aM (q++ [t,u]) (bO .i64 (aC (q++ [t,u])) 2)=some t:=b7 q [t,u] 2 0 (by simp;omega) rfl (by omega) (by simp);have H:bO .i64 (aC (q++ [t,u])) 2=((q.length:Nat):Int):=by
      rw[aD,yi,cT (by simp<;>omega) (by simp<;>omega)];simp
     rw[hg1,hg2,H,aD,yi]at hr;simp only[yz,yz2]at hr;rw[decide_eq_false (by omega),decide_eq_true (by omega),decide_eq_true (by omega)]at hr;simp only[yg,yh,yb,yi1,yy]at hr;rw[yh2 (by simp),yo3]at hr;exact .inr ⟨q,t,u,rfl,(ya hr).symm⟩
    ·left;rw[aD,decide_eq_true (by omega)]at hr;exact⟨by omega,(ya hr).symm⟩
   rcases Z b N hs eb with ⟨_,rfl⟩|⟨q,t,u,rfl,rfl⟩
   ·cases J
   ·rcases Z a O (by omega) ea with ⟨h2,rfl⟩|⟨p,v,w,rfl,rfl⟩
    ·simp at hl;omega
    ·obtain⟨s1,s2⟩:=QJ K;refine⟨rfl,rfl,HG rfl λj M h2=>?_,(rP (by simp)).2 λj M=>?_⟩
     ·match j,M with
      |0,_=>exact s2
      |1,_=>exact s1
     ·match j,M with
      |0,_=>simp[lU]
      |1,_=>simp[lU]
  ·by_cases U:i.1=41
   ·obtain⟨op,x,y⟩:=i;simp only at U;subst U;have W: ∀(s:List cZ) (r:Ut),s.length≤200->aI n m.recs m.funcs m.imps m.ints m.texts f.1 f.2.1 f.2.2.1 f.2.2.2.1 f.2.2.2.2 41 x y s=some r->(s= []/\r=([],[],false))\/∃q t,s=q++ [t]/\r=(if t.1=5 then([t],[],true)else([],[],false)):=by
     intro s r hs hr;simp only[aI,Int.reduceBEq,yh,yg]at hr;by_cases h:1≤s.length
     ·obtain⟨q,t,rfl⟩:=l8 h;rw[yi,yl1]at hs;have hg:aM (q++ [t]) (bO .i64 (aC (q++ [t])) 1)=some t:=b7 q [t] 1 0 (by simp;omega) rfl (by omega) (by simp);have H:bO .i64 (aC (q++ [t])) 1=((q.length:Nat):Int):=by
       rw[aD,yi,cT (by simp<;>omega) (by simp<;>omega)];simp
      rw[hg,H,aD,yi,yl1,decide_eq_false (by omega),decide_eq_true (by omega),decide_eq_true (by omega)]at hr;simp only[yg,yh,yb,yi1,yy]at hr;rw[yh2 (by simp),yo3]at hr;refine .inr ⟨q,t,rfl,?_⟩;by_cases V:t.1=5
      ·rw[show(t.1 !=5)=false from by rw[V];rfl]at hr;rw[if_pos V];exact(ya hr).symm
      ·rw[show(t.1 !=5)=true from bne_iff_ne.2 V]at hr;rw[if_neg V];exact(ya hr).symm
     ·left;have:s= []:=yu (by omega);rw[aD,decide_eq_true (by omega)]at hr;exact⟨this,(ya hr).symm⟩
    rcases W b N hs eb with ⟨_,rfl⟩|⟨q,t,rfl,rfl⟩
    ·cases J
    ·by_cases V:t.1=5
     ·rcases W a O (by omega) ea with ⟨rfl,rfl⟩|⟨p,u,rfl,rfl⟩
      ·simp at hl
      ·have H:=Hs K;have hut:u=t:=by
        rcases(fP u t).1 H with h|h|⟨_,h,_⟩
        ·exact h
        ·omega
        ·rw[FT]at h;omega
       subst hut;rw[if_pos V]at ht hle⊢
       refine⟨rfl,rfl,rfl,(rP (by simp)).2 λj M=>?_⟩;simp at M;subst M;simp[lU]
     ·rw[if_neg V]at J;cases J
   ·have he:=PF n m f i a b hbad h6 h7 U;rw[ea,eb]at he;obtain rfl:=ya he;exact⟨J,rfl,pO _,Ov K hle ht⟩
end Sx
end
section
namespace Sx
open Go Go.Ab
theorem AE{mp:List dJ}{k:Nat}{v:dJ}{H:List cZ}(M:mp[k]?=some v)(J:v.1=true)(K:bR H v.2=true):kV mp H (k:Int)=true:=by
 unfold kV;rw[aP,M];simp only[J,K,yi1]
theorem J3{m:bM}{f:i7}{sh:List dJ}{pc:Nat}{x:dJ}{i:AM}(K:sh[pc]?=some x)(H:f.2.2.2.2[pc]?=some i)(h8:x.2.length≤8)
  (h:x.1=true->(cY m f i (pc:Int) x.2).2.2=0/\∀t∈(cY m f i (pc:Int) x.2).2.1,kV sh (cY m f i (pc:Int) x.2).1 t=true):KM m f sh pc=true:=by
 unfold KM;rw[K,H];show LO m f sh i (pc:Int) x=true;unfold LO;rw[decide_eq_false (by omega),yc3,yo2];cases J:x.1 with
 |false=>rfl
 |true=>
  rw[yf2,yg4,yc,yf1,beq_iff_eq];exact h J
theorem L7{x y z:cZ}(M:f7 x z=true)(H:f7 y z=true):f7 (dQ x y) z=true:=by
 unfold dQ;by_cases a:f7 x y=true
 ·rw[if_pos a];exact H
 ·rw[if_neg a];by_cases b:f7 y x=true
  ·rw[if_pos b];exact M
  ·rw[if_neg b];rcases(fP x z).1 M with rfl|J|⟨r1,U,V⟩
   ·exact absurd H b
   ·split<;>exact(fP _ _).2 (.inr (.inl J))
   ·rcases(fP y z).1 H with rfl|J|⟨N,s2,s3⟩
    ·exact absurd M a
    ·split<;>exact(fP _ _).2 (.inr (.inl J))
    ·have K:x.1≠6:=λe=>a ((fP x y).2 (.inr (.inr ⟨r1,N,.inl e⟩)));have O:z.1=7:=V.resolve_left K;rw[if_pos ⟨r1,N⟩];exact(fP _ _).2 (.inr (.inr ⟨rfl,U,.inr O⟩))
theorem Ee: ∀{s a r:List cZ},bR s r=true->bR a r=true->bR (eJ s a) r=true
 | [],[],[],_,_=>rfl
 |x::s,y::a,z::r,K,H=>by
  rw[pE,yc]at K H;show bR (dQ x y::eJ s a) (z::r)=true;rw[pE,L7 K.1 H.1,Ee K.2 H.2];rfl
 | [],[],_::_,h,_=>by have:=gI h;simp at this
 | [],_::_,r,h,J=>by have:=gI h;have:=gI J;simp at *;omega
 |_::_,[],r,h,J=>by have:=gI h;have:=gI J;simp at *;omega
 |_::_,_::_,[],h,_=>by have:=gI h;simp at this
def Ai(sh:List dJ)(q:List Int)(k:Nat)(x:dJ)(a:List cZ):Option (List dJ×List Int):=
 if x.1=false then some (sh.set k (true,a),q++ [(k:Int)])else
 if x.2.length≠a.length then none else
 if eJ x.2 a=x.2 then some (sh,q)else some (sh.set k (true,eJ x.2 a),q++ [(k:Int)])
def CH(sh:List dJ):Prop:= ∀x∈sh,x.1=false->x.2= []
theorem CH.put{sh:List dJ}(h:CH sh)(k:Nat){v:dJ}(J:v.1=true):CH (sh.set k v):=λx M H=>by
 rcases yi2 M with K|rfl
 ·exact h x K H
 ·rw[J]at H;cases H
structure T9 (L:Nat) (a:List cZ) (sh:List dJ) (q:List Int) (ks:List Int) (sh':List dJ) (q':List Int):Prop where
 inv:KG L sh'
 le:Ap sh sh'
 nxt: ∀t∈ks,kV sh' a t=true
 same: ∀j:Nat,(j:Int)∈q'\/sh'[j]?=sh[j]?
 sub: ∀t∈q,t∈q'
 new: ∀t∈q',t∈q\/t∈ks
 pot:q'.length+mu sh≤q.length+mu sh'
 nil:CH sh->CH sh'
theorem SC{L:Nat}{sh:List dJ}{q:List Int}{k:Nat}{x:dJ}{a:List cZ}(hI:KG L sh)(K:sh[k]?=some x)(Y:H8 a)(h8:a.length≤8){r:List dJ×List Int}(h:Ai sh q k x a=some r):
  T9 L a sh q [(k:Int)] r.1 r.2:=by
 unfold Ai at h;have W:=hI.all x (yk K);have put: ∀v:dJ,v.1=true->H8 v.2->v.2.length≤8->(x.1=true->bR x.2 v.2=true)->Rr x<Rr v->bR a v.2=true->T9 L a sh q [(k:Int)] (sh.set k v) (q++ [(k:Int)]):=by
  intro v H hv U hb V N;obtain⟨Z,g2,g3⟩:=RX hI K hv U H hb V false;refine⟨Z,g2.le,λt ht=>?_,λj=>?_,λt ht=>yz1 _ ht,λt ht=>yn1.1 ht,?_,λh=>h.put k H⟩
  ·rw[yh1.1 ht];exact AE g3 H N
  ·by_cases e:k=j
   ·exact .inl (by rw[e];exact ya2 _ (yh1.2 rfl))
   ·exact .inr (yo e)
  ·have hm:=Nb sh k x v K;rw[yi,yl1];omega
 by_cases H:x.1=false
 ·rw[if_pos H]at h;obtain rfl:=ya h;refine put (true,a) rfl Y h8 (λe=>by rw[H]at e;cases e) ?_ (pO a);unfold Rr;rw[H,if_neg (by decide),if_pos rfl];omega
 ·rw[if_neg H]at h;have H:x.1=true:=by simpa using H
  by_cases J:x.2.length≠a.length
  ·rw[if_pos J]at h;cases h
  ·rw[if_neg J]at h;have J:x.2.length=a.length:=Decidable.not_not.1 J;obtain⟨j1,j2,j3,O,j5,j6⟩:=Ea x.2 a J W.1 Y;by_cases M:eJ x.2 a=x.2
   ·rw[if_pos M]at h;obtain rfl:=ya h;refine⟨hI,Ap.refl sh,λt ht=>?_,λj=> .inr rfl,λt ht=>ht,λt ht=> .inl ht,ya1 _,id⟩;rw[yh1.1 ht];exact AE K H (by rw[M]at O;exact O)
   ·rw[if_neg M]at h;obtain rfl:=ya h;refine put (true,eJ x.2 a) rfl j1 (by rw[j2];exact W.2) (λ_=>j3) ?_ O;have:=j6 M;unfold Rr;rw[if_pos H,if_pos rfl];simp only;omega
theorem sG{mp:List dJ}{a:List cZ}{k:Nat}(h:kV mp a (k:Int)=true): ∃y:dJ,mp[k]?=some y/\y.1=true/\bR a y.2=true:=by
 unfold kV at h;rw[aP]at h;cases H:mp[k]? with
 |none=>rw[H]at h;cases h
 |some y=>rw[H]at h;simp only[yc]at h;exact⟨y,rfl,h.1,h.2⟩
theorem Ap.put{sh R:List dJ}{k:Nat}{y v:dJ}(h:Ap sh R)(K:R[k]?=some y)(M:y.1=true)(N:bR v.2 y.2=true):Ap (sh.set k v) R:=by
 refine⟨by rw[yt2];exact h.1,λj z H=>?_⟩;by_cases e:k=j
 ·subst e;have J:k<sh.length:=by have:=(yd.1 H).1;rwa[yt2]at this
  rw[yt J]at H;obtain rfl:=ya H;exact⟨y,K,λ_=>⟨M,N⟩⟩
 ·rw[yo e]at H;exact h.2 j z H
theorem PD{sh:List dJ}{q:List Int}{k:Nat}{x:dJ}{a:List cZ}{R:List dJ}(W:sh[k]?=some x)(H:Ap sh R)(hn:kV R a (k:Int)=true): ∃r,Ai sh q k x a=some r/\Ap r.1 R:=by
 obtain⟨y,O,V,N⟩:=sG hn;obtain⟨y',J,M⟩:=H.2 k x W;rw[O]at J;obtain rfl:=ya J;unfold Ai;by_cases K:x.1=false
 ·rw[if_pos K];exact⟨_,rfl,H.put O V N⟩
 ·rw[if_neg K];have K:x.1=true:=by simpa using K
  have M:=(M K).2;rw[if_neg (by rw[gI M,gI N];exact λh=>h rfl)];by_cases U:eJ x.2 a=x.2
  ·rw[if_pos U];exact⟨_,rfl,H⟩
  ·rw[if_neg U];exact⟨_,rfl,H.put O V (Ee M N)⟩
def sO(a:List cZ):List Int->List dJ->List Int->Option (List dJ×List Int)
 | [],sh,q=>some (sh,q)
 |t::ts,sh,q=>match sh[t.toNat]? with
  |some x=>(Ai sh q t.toNat x a).bind λr=>sO a ts r.1 r.2
  |none=>none
theorem T9.trans{L:Nat}{a:List cZ}{sh N O:List dJ}{q V U:List Int}{t:Int}{ts:List Int}(h:T9 L a sh q [t] N V)(H:T9 L a N V ts O U):T9 L a sh q (t::ts) O U:=by
 refine⟨H.inv,h.le.trans H.le,λu J=>?_,λj=>?_,λu J=>H.sub u (h.sub u J),λu J=>?_,by have:=h.pot;have:=H.pot;omega,λe=>H.nil (h.nil e)⟩
 ·rcases yj1.1 J with rfl|J
  ·exact IN H.le (h.nxt u (yh1.2 rfl))
  ·exact H.nxt u J
 ·rcases H.same j with M|M
  ·exact .inl M
  ·rcases h.same j with K|K
   ·exact .inl (H.sub _ K)
   ·exact .inr (M.trans K)
 ·rcases H.new u J with M|M
  ·rcases h.new u M with K|K
   ·exact .inl K
   ·exact .inr (by rw[yh1.1 K];exact yn ..)
  ·exact .inr (yj _ M)
theorem IR{L:Nat}{a:List cZ}(K:H8 a)(M:a.length≤8): ∀{ts:List Int} {sh:List dJ} {q:List Int} {r:List dJ×List Int},KG L sh->(∀t∈ts,0≤t)->sO a ts sh q=some r->T9 L a sh q ts r.1 r.2
 | [],sh,q,r,hI,_,h=>by
  obtain rfl:=ya h;exact⟨hI,Ap.refl sh,(λt ht=>by cases ht),λj=> .inr rfl,λt ht=>ht,λt ht=> .inl ht,ya1 _,id⟩
 |t::ts,sh,q,r,hI,J,h=>by
  simp only[sO]at h;split at h
  ·rename_i x U;obtain⟨p,O,h⟩:=yy1.1 h;have H:=SC hI U K M O;rw[Int.toNat_of_nonneg (J t (yn ..))]at H;exact H.trans (IR K M H.inv (λu N=>J u (yj _ N)) h)
  ·cases h
theorem F5{a:List cZ}{R:List dJ}: ∀{ts:List Int} {sh:List dJ} {q:List Int},Ap sh R->(∀t∈ts,0≤t/\kV R a t=true)->∃r,sO a ts sh q=some r/\Ap r.1 R
 | [],sh,q,H,_=>⟨_,rfl,H⟩
 |t::ts,sh,q,H,h=>by
  obtain⟨U,hn⟩:=h t (yn ..);obtain⟨k,rfl⟩:=yn3 U;obtain⟨y,W,_⟩:=sG hn;have M:k<sh.length:=by rw[H.1];exact(yd.1 W).1
  have N:sh[k]?=some sh[k]:=yf M;obtain⟨r,hr,J⟩:=PD (q:=q) N H hn;obtain⟨Y,K,V⟩:=F5 (ts:=ts) (q:=r.2) J λu O=>h u (yj _ O);refine⟨Y,?_,V⟩;simp only[sO,yy,N,hr,yb,K]
theorem Ly{m:bM}{N H:Nat}{f:i7}{i:AM}{a b:List cZ}(hc:dA m=0)(hf:m.funcs[N]?=some f)(M:f.2.2.2.2[H]?=some i)(J:bR a b=true)(U:b.length≤200)(O:(cY m f i (H:Int) b).2.2=0):
  (cY m f i (H:Int) a).2.2=0/\bR (cY m f i (H:Int) a).1 (cY m f i (H:Int) b).1=true/\(cY m f i (H:Int) a).2.1=(cY m f i (H:Int) b).2.1:=by
 have hl:=gI J;obtain⟨_,_,Z,_⟩:=oA m N H f i a hc hf M (by omega);obtain⟨_,_,eb,_⟩:=oA m N H f i b hc hf M U;have K:=((iT (eM hc).1).2.2.2.1 f (yk hf)).1 i (yk M);obtain⟨k1,k2,k3,k4,k5,k6⟩:=Ht O;obtain⟨q1,W,Y,V⟩:=M5 10000 m f i a b _ _ K U J Z eb k1 k2 k4;exact NO J O q1 W Y V
noncomputable def ND(m:bM)(f:i7)(sh:List dJ)(pc:Nat)(q:List Int):Option (List dJ×List Int):=
 match sh[pc]?,f.2.2.2.2[pc]? with
 |some x,some i=>if(cY m f i (pc:Int) x.2).2.2=0 then sO (cY m f i (pc:Int) x.2).1 (cY m f i (pc:Int) x.2).2.1 sh q else none
 |_,_=>none
structure QW (m:bM) (f:i7) (sh:List dJ) (q:List Int):Prop where
 inv:KG f.2.2.2.2.length sh
 seen: ∀t∈q,∃(k:Nat) (x:dJ),t=(k:Int)/\sh[k]?=some x/\x.1=true
 done: ∀k,k<f.2.2.2.2.length->(k:Int)∈q\/KM m f sh k=true
theorem Hh{m:bM}{f:i7}{sh:List dJ}{pc:Nat}{x:dJ}{i:AM}(M:sh[pc]?=some x)(J:f.2.2.2.2[pc]?=some i)(h:KM m f sh pc=true):
  x.2.length≤8/\(x.1=true->(cY m f i (pc:Int) x.2).2.2=0/\∀t∈(cY m f i (pc:Int) x.2).2.1,kV sh (cY m f i (pc:Int) x.2).1 t=true):=by
 unfold KM at h;rw[M,J]at h;have h:LO m f sh i (pc:Int) x=true:=h;unfold LO at h;rw[yc]at h;refine⟨by have:=h.1;simp at this;omega,λK=>?_⟩;have H:=h.2;rw[K,yf2,yg4,yc,yf1,beq_iff_eq]at H;exact H
theorem SO{m:bM}{fk:Nat}{f:i7}(hc:dA m=0)(hf:m.funcs[fk]?=some f){sh:List dJ}{pc:Nat}{q:List Int}{r:List dJ×List Int}(hI:QW m f sh ((pc:Int)::q))(h:ND m f sh pc q=some r):
  QW m f r.1 r.2/\Ap sh r.1/\r.2.length+mu sh≤q.length+mu r.1/\(CH sh->CH r.1):=by
 obtain⟨k,x,O,U,hx1⟩:=hI.seen _ (yn ..);obtain rfl:pc=k:=by omega
 have W:pc<f.2.2.2.2.length:=by rw[<-hI.inv.len];exact(yd.1 U).1
 obtain⟨i,hi⟩: ∃i,f.2.2.2.2[pc]?=some i:=⟨_,yf W⟩
 have N:=hI.inv.all x (yk U);obtain⟨_,_,_,q1,q2,q3⟩:=oA m fk pc f i x.2 hc hf hi (by omega);obtain⟨w1,w2⟩:=LL hc hf hi (by omega) N.1;unfold ND at h;rw[U,hi]at h;simp only at h;by_cases V:(cY m f i (pc:Int) x.2).2.2=0
 ·rw[if_pos V]at h;have hm:=IR w1 w2 hI.inv (λt ht=>(q3 t ht).1) h;refine⟨⟨hm.inv,λt ht=>?_,λk O=>?_⟩,hm.le,hm.pot,hm.nil⟩
  ·rcases hm.new t ht with H|H
   ·obtain⟨k,y,e,K,M⟩:=hI.seen t (yj _ H);obtain⟨z,hz,Y⟩:=hm.le.2 k y K;exact⟨k,z,e,hz,(Y M).1⟩
   ·obtain⟨k,rfl⟩:=yn3 (q3 t H).1;obtain⟨y,K,M,_⟩:=sG (hm.nxt _ H);exact⟨k,y,rfl,K,M⟩
  ·rcases hm.same k with H|H
   ·exact .inl H
   ·by_cases e:k=pc
    ·subst e;refine .inr (J3 (H.trans U) hi N.2 λ_=>⟨V,hm.nxt⟩)
    ·rcases hI.done k O with J|J
     ·rcases yj1.1 J with J|J
      ·exact absurd (by omega) e
      ·exact .inl (hm.sub _ J)
     ·obtain⟨y,K⟩: ∃y,sh[k]?=some y:=⟨_,yf (by rw[hI.inv.len];exact O)⟩
      obtain⟨j,hj⟩: ∃j,f.2.2.2.2[k]?=some j:=⟨_,yf O⟩
      obtain⟨o1,Z⟩:=Hh K hj J;exact .inr (J3 (H.trans K) hj o1 λM=>⟨(Z M).1,λt ht=>IN hm.le ((Z M).2 t ht)⟩)
 ·rw[if_neg V]at h;cases h
def UG(m:bM)(f:i7)(R:List dJ):Prop:=R.length=f.2.2.2.2.length/\∀k,k<f.2.2.2.2.length->KM m f R k=true
theorem LZ{m:bM}{U:Nat}{f:i7}(hc:dA m=0)(hf:m.funcs[U]?=some f){sh R:List dJ}{pc:Nat}{q:List Int}(hI:QW m f sh ((pc:Int)::q))(hR:UG m f R)(J:Ap sh R):
  ∃r,ND m f sh pc q=some r/\Ap r.1 R:=by
 obtain⟨k,x,hk,M,N⟩:=hI.seen _ (yn ..);obtain rfl:pc=k:=by omega
 have H:pc<f.2.2.2.2.length:=by rw[<-hI.inv.len];exact(yd.1 M).1
 obtain⟨i,hi⟩: ∃i,f.2.2.2.2[pc]?=some i:=⟨_,yf H⟩
 obtain⟨y,Z,K⟩:=J.2 pc x M;obtain⟨y1,K⟩:=K N;obtain⟨o1,W⟩:=Hh Z hi (hR.2 pc H);obtain⟨p1,p2⟩:=W y1;obtain⟨b1,b2,V⟩:=Ly hc hf hi K (by omega) p1;obtain⟨_,_,_,_,_,O⟩:=oA m U pc f i y.2 hc hf hi (by omega);unfold ND;rw[M,hi];simp only;rw[if_pos b1];refine F5 J λt ht=>?_;rw[V]at ht;refine⟨(O t ht).1,?_⟩;obtain⟨k,rfl⟩:=yn3 (O t ht).1;obtain⟨z,Y,z1,z2⟩:=sG (p2 _ ht);exact AE Y z1 (sQ b2 z2)
theorem Qx(L:Nat):CH ((List.replicate L ((false,[]):dJ)).set 0 (true,[])):=
 CH.put (λx H _=>by rw[List.eq_of_mem_replicate H]) 0 rfl
theorem GR{m:bM}{f:i7}{R:List dJ}(hL:1≤f.2.2.2.2.length)(hR:JH m f R=true):UG m f R/\Ap ((List.replicate f.2.2.2.2.length ((false,[]):dJ)).set 0 (true,[])) R:=by
 unfold JH at hR;rw[yc,yc,decide_eq_true_eq,yf1]at hR;obtain⟨⟨H,J⟩,O⟩:=hR;refine⟨⟨H,λk N=>O k (List.mem_range.2 (by omega))⟩,?_⟩
 match R,H,J with
 | [],H,_=>simp at H;omega
 |x::R,H,J=>
  simp only[yc,yw,decide_eq_false_iff_not]at J;have M:x.2= []:=List.length_eq_zero_iff.1 (by omega);refine Ap.put (y:=x) ⟨by rw[yj3];exact H.symm,λk z K=>?_⟩ rfl J.1 (by rw[M];rfl);have N:=(yd.1 K).1;rw[yj3]at N;refine⟨(x::R)[k]'(by omega),yf _,λh=>?_⟩;rw[yu1,if_pos N]at K;obtain rfl:=ya K;cases h
theorem Re{m:bM}{H:List (List dJ)}(h:Ow m H=true){k:Nat}{f:i7}(hf:m.funcs[k]?=some f): ∃R,JH m f R=true:=by
 unfold Ow at h;rw[yc,yc,decide_eq_true_eq,yf1]at h;obtain⟨_,K,M⟩:=h;have J:k<H.length:=by rw[K];exact(yd.1 hf).1
 have:=M k (List.mem_range.2 J);rw[Um (yf J) hf]at this;exact⟨_,this⟩
end Sx
end
section
namespace Sx
open Go Go.Ab
theorem qbm_eq(n:Nat)(a b:cZ):qbm n a.1 a.2 b.1 b.2=some (dQ a b):=by
 unfold qbm dQ;rw[qbz_eq n a b,yb,qbz_eq n b a,yb,qcb_eq n a,yb,qcb_eq n b,yb];cases f7 a b<;>cases f7 b a<;>cases rF a<;>cases rF b<;>rfl
theorem I4(n:Nat)(a:List cZ)(ha:a.length≤1000):qbe n a=some a:=by
 unfold qbe;rw[yr1 (by omega),yg]
theorem Mk(n:Nat)(a:List cZ):qbo n a=some ((0,a.length),a):=by
 unfold qbo;rw[aD,decide_eq_true (by omega),decide_eq_true (by omega),yi1,yg,yy,decide_eq_true (by omega),yi1,yg,Nat.sub_zero]
theorem yM{α:Type}{l:List α}{k:Nat}{x:α}(h:l[k]?=some x):l.set k x=l:=by
 refine List.ext_getElem? λj=>?_;by_cases e:k=j
 ·subst e;rw[yt (yd.1 h).1,h]
 ·rw[yo e]
structure QR (o n:Nat) (m2 q:List Int):Prop where
 le:o+n≤m2.length
 eq:(m2.drop o).take n=q
theorem QR.len{o n:Nat}{H q:List Int}(h:QR o n H q):q.length=n:=by
 rw[<-h.eq,yn2,yb4];have:=h.le;omega
theorem QR.whole(l:List Int):QR 0 l.length l l:=⟨by omega,by simp⟩
theorem QR.head{o n:Nat}{H q:List Int}{t:Int}(h:QR o n H (t::q)):1≤n/\H[o]?=some t/\QR (o+1) (n-1) H q:=by
 have J:=h.len;have N:=h.le;have M:=h.eq;rw[yz]at J;have K:o<H.length:=by omega
 rw[yu3 K,<-J,ya4]at M;injection M with O U
 exact⟨by omega,by rw[yf K,O],by omega,by rw[<-J,Nat.add_sub_cancel];exact U⟩
abbrev S6:=List (List cZ)×List i7×List Rx×List Int×List ByteArray×Int×Nat×Nat
abbrev Px(m:bM)(fk:Int)(o n:Nat):S6:=(m.recs,(m.funcs,(m.imps,(m.ints,(m.texts,(fk,(o,n)))))))
theorem Sg(n k:Nat)(c:S6)(U:List Int): ∀(s a J K:List cZ) (H:Bool) (sh:List dJ) (j:Nat),sh[k]?=some (true,J++s)->J.length=K.length->s.length=a.length->K.length+a.length≤1000->a.length<j->
  aY (λs=>qc_B0 n s.1.1 s.1.2.1 s.1.2.2.1 s.1.2.2.2.1 s.1.2.2.2.2.1 s.1.2.2.2.2.2 s.2.1 s.2.2.1 s.2.2.2) j
   (((k:Int),(k,(H,(K++a,((((K++a).length:Nat):Int),((K.length:Nat):Int)))))),(c,(sh,U)))=some (((k:Int),(H||!decide (eJ s a=s))),(c,(sh.set k (true,J++eJ s a),U)))
 | [],[],J,K,H,sh,j+1,W,O,_,Y,_=>by
  refine b4 ?_;show qc_B0 n (k:Int) k H (K++ []) (((K++ []).length:Nat):Int) ((K.length:Nat):Int) c sh U=_;unfold qc_B0;rw[decide_eq_false (by simp),yh,show eJ [] []= []from rfl,yM W];simp
 |x::s,y::a,J,K,H,sh,j+1,W,O,V,Y,h4=>by
  have g1:(J++x::s)[K.length]?=some x:=by rw[<-O];simp
  have g2:aM (K++y::a) ((K.length:Nat):Int)=some y:=by rw[aP];simp
  have g3:(J++x::s).set K.length (dQ x y)=J++dQ x y::s:=by rw[<-O];simp
  have M:sh.set k (true,J++x::s)=sh:=yM W;have Z:k<sh.length:=(yd.1 W).1;have d1:decide (((K.length:Nat):Int)<(((K++y::a).length:Nat):Int))=true:=decide_eq_true (by rw[yi,yz];omega);have d2:decide ((0:Int)≤(k:Int))=true:=decide_eq_true (by omega);have d3:Nat.beq k k=true:=yg3 k;have d4:decide ((0:Int)≤((K.length:Nat):Int))=true:=decide_eq_true (by omega);have d5:decide (((K.length:Nat):Int)<(((J++x::s).length:Nat):Int))=true:=decide_eq_true (by rw[yi,O,yz];omega);have d6:Nat.ble (K.length+1) (J++x::s).length=true:=yr1 (by rw[yi,O,yz];omega);have N:qc_B0 n (k:Int) k H (K++y::a) (((K++y::a).length:Nat):Int) ((K.length:Nat):Int) c sh U
    =some (Sum.inl (((k:Int),(k,((H||!decide (dQ x y=x)),(K++y::a,((((K++y::a).length:Nat):Int),((K.length+1:Nat):Int)))))),(c,(sh.set k (true,J++dQ x y::s),U)))):=by
   unfold qc_B0;simp only[d1,d2,d3,d4,d5,d6,yg,yy,g1,g2,g3,W,M,yb,yi1,qbm_eq n x y];rw[cL (by simp only[yz]at Y;omega) (by simp only[yz]at Y;omega)];have he:((dQ x y).1==x.1&&(dQ x y).2==x.2)=decide (dQ x y=x):=by
    rw[Bool.eq_iff_iff,yc,beq_iff_eq,beq_iff_eq,decide_eq_true_eq,Prod.ext_iff]
   rw[he];by_cases hj:dQ x y=x
   ·rw[decide_eq_true hj,yf2,yh,Bool.or_false,hj,M];rfl
   ·rw[decide_eq_false hj,yc3,yg,Bool.or_true];rfl
  refine(b8 N).trans ?_;have ih:=Sg n k c U s a (J++ [dQ x y]) (K++ [y]) (H||!decide (dQ x y=x)) (sh.set k (true,J++dQ x y::s)) j (by rw[yt Z,ya3];rfl) (by simp[O]) (by simpa using V)
   (by simp only[yi,yz,yz2]at Y⊢;omega) (by simp only[yz]at h4;omega)
  rw[ya3,ya3,List.set_set,show(K++ [y]).length=K.length+1 by simp]at ih;refine ih.trans ?_;have hb:(H||!decide (dQ x y=x)||!decide (eJ s a=s))=(H||!decide (eJ (x::s) (y::a)=x::s)):=by
   rw[show eJ (x::s) (y::a)=dQ x y::eJ s a from rfl];simp only[List.cons.injEq,Bool.decide_and,Bool.not_and,Bool.or_assoc]
  rw[hb];rfl
 | [],_::_,_,_,_,_,_,_,_,V,_,_=>by simp at V
 |_::_,[],_,_,_,_,_,_,_,V,_,_=>by simp at V
theorem S3(n:Nat)(hn:500≤n)(c:S6){K q:List Int}(U:QR c.2.2.2.2.2.2.1 c.2.2.2.2.2.2.2 K q)(hql:q.length≤100000){sh:List dJ}{k:Nat}{x:dJ}{a:List cZ}(O:sh[k]?=some x)(ha:a.length≤200):
  ∃y,qc n (k:Int) a c sh K=some y/\(match Ai sh q k x a with
   |none=>y=Sum.inr (Sum.inl (false,(c,(sh,K))))
   |some r=> ∃Y W J,QR Y W J r.2/\(y=Sum.inl (true,((c.1,(c.2.1,(c.2.2.1,(c.2.2.2.1,(c.2.2.2.2.1,(c.2.2.2.2.2.1,(Y,W))))))),(r.1,J)))\/y=Sum.inr (Sum.inr (true,((c.1,(c.2.1,(c.2.2.1,(c.2.2.2.1,(c.2.2.2.2.1,(c.2.2.2.2.2.1,(Y,W))))))),(r.1,J)))))):=by
 have V:k<sh.length:=(yd.1 O).1;have d1:decide ((0:Int)≤(k:Int))=true:=decide_eq_true (by omega);have d2:decide ((k:Int)<((sh.length:Nat):Int))=true:=decide_eq_true (by omega);have Z:Nat.ble (c.2.2.2.2.2.2.1+c.2.2.2.2.2.2.2) K.length=true:=yr1 U.le;have d4:Nat.ble (q++ [(k:Int)]).length 4294967296=true:=yr1 (by simp;omega);have d5:Nat.ble 1 (q++ [(k:Int)]).length=true:=yr1 (by simp);have d6:Nat.beq 0 0=true:=rfl;have d7:Nat.ble a.length a.length=true:=yr1 (ya1 _);unfold qc Ai;simp only[d1,d2,Z,yi1,yg,yy,O,yb,U.eq];cases hx:x.1 with
 |false=>
  simp only[yc3,yg,I4 n a (by omega),Mk,yb,yt V,d4,d5,d6,d7,Bool.or_true,List.set_set,yq3,if_true];exact⟨_,rfl,_,_,_,QR.whole _,.inl rfl⟩
 |true=>
  simp only[yf2,yh,reduceCtorEq,if_false,Sk];have H:sh.set k (true,x.2)=sh:=yM (by rw[O,<-hx]);by_cases N:x.2.length=a.length
  ·rw[decide_eq_true N,yf2,yh,H];have hW:qc_W0 n ((((k:Int),(k,(false,(a,(aC a,0))))),(c,(sh,K))))=some (((k:Int),(false||!decide (eJ x.2 a=x.2))),(c,(sh.set k (true,eJ x.2 a),K))):=
    Sg n k c K x.2 a [] [] false sh n (by rw[O,<-hx];rfl) rfl N (by simp;omega) (by omega)
   rw[hW,yb];simp only[yg4,ne_eq,N,not_true_eq_false,if_false,U.eq,Z,d4,d5,yg,Bool.or_true];by_cases M:eJ x.2 a=x.2
   ·rw[decide_eq_true M,yf2,yh,if_pos M,M,H];exact⟨_,rfl,_,_,_,U,.inr rfl⟩
   ·rw[decide_eq_false M,yc3,yg,if_neg M];exact⟨_,rfl,_,_,_,QR.whole _,.inr rfl⟩
  ·rw[decide_eq_false N,yc3,yg,H,if_pos N];exact⟨_,rfl,rfl⟩
end Sx
end
section
namespace Sx
open Go Go.Ab
end Sx
end
section
namespace Sx
open Go Go.Ab
def KF(m:bM)(f:i7)(sh:List dJ):Prop:=KG f.2.2.2.2.length sh/\∀pc,pc<f.2.2.2.2.length->KM m f sh pc=true
theorem N4{L:Nat}(hL:1≤L):KG L ((List.replicate L ((false,[]):dJ)).set 0 (true,[])):=⟨by simp,by rw[yt (by simp;omega)],λx H=>by
 rcases yi2 H with h|rfl
 ·rw[List.eq_of_mem_replicate h];exact⟨MF,by simp⟩
 ·exact⟨MF,by simp⟩⟩
end Sx
end
section
namespace Sx
open Go Go.Ab
theorem Qz{sh:List dJ}{q:List Int}{k:Nat}{x:dJ}{a:List cZ}{r:List dJ×List Int}(h:Ai sh q k x a=some r):r.1.length=sh.length/\r.2.length≤q.length+1:=by
 unfold Ai at h;split at h
 ·obtain rfl:=ya h;simp
 ·split at h
  ·cases h
  ·split at h<;>(obtain rfl:=ya h;simp)
theorem TZ(n:Nat)(hn:500≤n)(pc:Int)(a:List cZ)(ha:a.length≤200): ∀(ts H:List Int) (c:S6) (sh:List dJ) (U q:List Int) (j:Nat),QR c.2.2.2.2.2.2.1 c.2.2.2.2.2.2.2 U q->q.length+ts.length≤100000->(∀t∈ts,0≤t/\t<(sh.length:Int))->
  H.length+ts.length≤1000->ts.length<j->
  ∃y,aY (λs=>qp_B0 n s.1.1 s.1.2.1 s.1.2.2.1 s.1.2.2.2.1 s.1.2.2.2.2 s.2.1 s.2.2.1 s.2.2.2) j ((pc,(a,(H++ts,((((H++ts).length:Nat):Int),((H.length:Nat):Int))))),(c,(sh,U)))=some y/\
   (match sO a ts sh q with
   |none=> ∃st,y=Sum.inl ((pc,4),st)\/y=Sum.inr (Sum.inl ((pc,4),st))\/y=Sum.inr (Sum.inr (Sum.inl ((pc,4),st)))
   |some r=> ∃o' n' K,QR o' n' K r.2/\y=Sum.inr (Sum.inr (Sum.inr ((c.1,(c.2.1,(c.2.2.1,(c.2.2.2.1,(c.2.2.2.2.1,(c.2.2.2.2.2.1,(o',n'))))))),(r.1,K)))))
 | [],H,c,sh,U,q,j+1,hq,_,_,_,_=>by
  refine⟨Sum.inr (Sum.inr (Sum.inr (c,(sh,U)))),b4 ?_,_,_,_,hq,rfl⟩;show qp_B0 n pc a (H++ []) (((H++ []).length:Nat):Int) ((H.length:Nat):Int) c sh U=_;unfold qp_B0;rw[decide_eq_false (by simp),yh]
 |t::ts,H,c,sh,U,q,j+1,hq,hql,ht,hp,hj=>by
  obtain⟨k,rfl⟩:=yn3 (ht t (yn ..)).1;have hkl:k<sh.length:=by have:=(ht _ (yn ..)).2;omega
  have hk:sh[k]?=some sh[k]:=yf hkl;obtain⟨y,hy,hm⟩:=S3 n hn c hq (by simp only[yz]at hql;omega) hk ha;have g2:aM (H++(k:Int)::ts) ((H.length:Nat):Int)=some (k:Int):=by rw[aP];simp
  have J:qp_B0 n pc a (H++(k:Int)::ts) (((H++(k:Int)::ts).length:Nat):Int) ((H.length:Nat):Int) c sh U=(qc n (k:Int) a c sh U).bind λY=>
    Sum.rec (λN=>bif(!N.1)then some (Sum.inr (Sum.inl ((pc,4),N.2)))else some (Sum.inl ((pc,(a,(H++(k:Int)::ts,((((H++(k:Int)::ts).length:Nat):Int),((H.length+1:Nat):Int))))),N.2))) (λW=>
     Sum.rec (λM=>bif(!M.1)then some (Sum.inr (Sum.inr (Sum.inl ((pc,4),M.2))))else some (Sum.inl ((pc,(a,(H++(k:Int)::ts,((((H++(k:Int)::ts).length:Nat):Int),((H.length+1:Nat):Int))))),M.2))) (λO=>
      bif(!O.1)then some (Sum.inr (Sum.inr (Sum.inr (Sum.inl ((pc,4),O.2)))))else some (Sum.inl ((pc,(a,(H++(k:Int)::ts,((((H++(k:Int)::ts).length:Nat):Int),((H.length+1:Nat):Int))))),O.2))) W) Y:=by
   unfold qp_B0;rw[decide_eq_true (by rw[yi,yz];omega),yg,g2,yb,cL (by simp only[yz]at hp;omega) (by simp only[yz]at hp;omega)];rfl
  rw[hy,yb]at J;simp only[sO,yy,hk];cases V:Ai sh q k sh[k] a with
  |none=>
   rw[V]at hm;subst hm;exact⟨_,b4 J,(c,(sh,U)),.inr (.inl rfl)⟩
  |some r=>
   rw[V]at hm;obtain⟨o',n',K,hq',hor⟩:=hm;obtain⟨l1,l2⟩:=Qz V
   have hn1:qp_B0 n pc a (H++(k:Int)::ts) (((H++(k:Int)::ts).length:Nat):Int) ((H.length:Nat):Int) c sh U=some (Sum.inl ((pc,(a,(H++(k:Int)::ts,((((H++(k:Int)::ts).length:Nat):Int),((H.length+1:Nat):Int))))),
     ((c.1, (c.2.1, (c.2.2.1, (c.2.2.2.1, (c.2.2.2.2.1, (c.2.2.2.2.2.1, (o', n'))))))), (r.1, K)))) := by
    rcases hor with rfl|rfl<;>exact J
   obtain⟨y',Z,hm'⟩:=TZ n hn pc a ha ts (H++ [(k:Int)]) (c.1,(c.2.1,(c.2.2.1,(c.2.2.2.1,(c.2.2.2.2.1,(c.2.2.2.2.2.1,(o',n'))))))) r.1 K r.2 j hq' (by simp only[yz]at hql;omega)
    (λt h=>by rw[l1];exact ht t (yj _ h)) (by simp only[yi,yz,yz2]at hp⊢;omega) (by simp only[yz]at hj;omega)
   rw[ya3,show(H++ [(k:Int)]).length=H.length+1 by simp]at Z;exact⟨y',(b8 hn1).trans Z,hm'⟩
theorem T4{m:bM}{J:Nat}{f:i7}(hc:dA m=0)(hf:m.funcs[J]?=some f){sh:List dJ}{pc o n:Nat}{q W:List Int}(hI:QW m f sh ((pc:Int)::q))(hq:QR o n W ((pc:Int)::q))(hql:q.length≤90000):
  ∃y,qp 10000 (Px m (J:Int) o n) sh W=some y/\(match ND m f sh pc q with
   |none=> ∃st,y=Sum.inl (((pc:Int),4),st)\/y=Sum.inr (((pc:Int),4),st)
   |some r=> ∃V U H,QR V U H r.2/\y=Sum.inr ((0,0),(Px m (J:Int) V U,(r.1,H)))):=by
 obtain⟨k,x,hk,M,hx1⟩:=hI.seen _ (yn ..);obtain rfl:pc=k:=by omega
 have hsl:pc<sh.length:=(yd.1 M).1;have Z:pc<f.2.2.2.2.length:=by rw[<-hI.inv.len];exact hsl
 obtain⟨i,hi⟩: ∃i,f.2.2.2.2[pc]?=some i:=⟨_,yf Z⟩
 have Y:=hI.inv.all x (yk M);obtain⟨e1,_,_,q1,q2,q3⟩:=oA m J pc f i x.2 hc hf hi (by omega);obtain⟨w1,w2⟩:=LL hc hf hi (by omega) Y.1;obtain⟨h1,h2,h3⟩:=hq.head;have d1:decide ((0:Int)<((n:Nat):Int))=true:=decide_eq_true (by omega);have d2:decide ((1:Int)≤((n:Nat):Int))=true:=decide_eq_true (by omega);have d3:decide ((0:Int)≤((pc:Nat):Int))=true:=decide_eq_true (by omega);have d4:decide (((pc:Nat):Int)<((sh.length:Nat):Int))=true:=decide_eq_true (by omega);have N:sh.set pc (x.1,x.2)=sh:=yM M;unfold ND;simp only[M,hi];unfold qp;simp only[d1,d2,d3,d4,yw1,h2,M,N,yb,yg,yi1,yy,yg3 pc,e1];by_cases O:(cY m f i (pc:Int) x.2).2.2=0
 ·rw[if_pos O,O,show((0:Int) !=0)=false from rfl,yh];obtain⟨y,hy,hm⟩:=TZ 10000 (by omega) (pc:Int) (cY m f i (pc:Int) x.2).1 (by omega) (cY m f i (pc:Int) x.2).2.1 [] (Px m (J:Int) (o+1) (n-1)) sh W q 10000 h3 (by omega) (λt ht=>by rw[hI.inv.len];exact q3 t ht) (by simp;omega) (by omega);have hy':qp_W0 10000 (((pc:Int),((cY m f i (pc:Int) x.2).1,((cY m f i (pc:Int) x.2).2.1,(aC (cY m f i (pc:Int) x.2).2.1,0)))),(Px m (J:Int) (o+1) (n-1),(sh,W)))=some y:=hy;rw[show((m.recs,m.funcs,m.imps,m.ints,m.texts,(J:Int),o+1,n-1):S6)=Px m (J:Int) (o+1) (n-1)from rfl,hy',yb];cases K:sO (cY m f i (pc:Int) x.2).1 (cY m f i (pc:Int) x.2).2.1 sh q with
  |none=>
   rw[K]at hm;obtain⟨st,rfl|rfl|rfl⟩:=hm<;>exact⟨_,rfl,st,.inr rfl⟩
  |some r=>
   rw[K]at hm;obtain⟨V,U,H,hq',rfl⟩:=hm;exact⟨_,rfl,V,U,H,hq',rfl⟩
 ·rw[if_neg O,show((cY m f i (pc:Int) x.2).2.2 !=0)=true by simpa using O,yg];exact⟨_,rfl,_,.inl rfl⟩
theorem TV{m:bM}{U:Nat}{f:i7}(hc:dA m=0)(hf:m.funcs[U]?=some f): ∀(j:Nat) (sh:List dJ) (q N:List Int) (o n:Nat),QW m f sh q->QR o n N q->CH sh->q.length+25*f.2.2.2.2.length<j+mu sh->q.length+25*f.2.2.2.2.length≤80000+mu sh->
    ∃y,aY (qa_M500x1 10000) j (Sum.inl (Px m (U:Int) o n,(sh,N)))=some y/\
      ((∃ (pc : Nat) (st : S6 × List dJ × List Int), (y = Sum.inl (((pc : Int), 4), st) ∨ y = Sum.inr (Sum.inl (((pc : Int), 4), st))) ∧ pc < f.2.2.2.2.length ∧ ∀ R, UG m f R → Ap sh R → False) ∨
       ∃c K O,y=Sum.inl ((0,0),(c,(K,O)))/\KF m f K/\CH K/\∀R,UG m f R->Ap sh R->Ap K R)
  |0,sh,q,N,o,n,hI,_,_,h,_=>by
    exfalso;have:=O8 sh hI.inv.all;rw[hI.inv.len]at this;omega
  |j+1,sh,[],N,o,n,hI,hq,hN,_,_=>by
    refine⟨Sum.inl ((0,0),(Px m (U:Int) o n,(sh,N))),b4 ?_,.inr ⟨_,_,_,rfl,⟨hI.inv,λpc hp=>?_⟩,hN,λR _ h=>h⟩⟩
    · show qa_B500x1q0 10000 (Px m (U:Int) o n) sh N=_
      unfold qa_B500x1q0;have hn:n=0:=hq.len.symm;subst hn;rfl
    · rcases hI.done pc hp with h|h
      · cases h
      · exact h
  |j+1,sh,t::q,N,o,n,hI,hq,hN,hj,hb=>by
    obtain⟨pc,x,rfl,hx,hx1⟩:=hI.seen t (yn ..);have hmu:=O8 sh hI.inv.all;rw[hI.inv.len]at hmu;rw[yz]at hj hb;obtain⟨y,hy,hm⟩:=T4 hc hf hI hq (by omega);have W: ¬(((n:Nat):Int)==0)=true:=by have:=hq.len;rw[yz]at this;rw[beq_iff_eq];omega
    have J:qa_M500x1 10000 (Sum.inl (Px m (U:Int) o n,(sh,N)))=(qp 10000 (Px m (U:Int) o n) sh N).bind λr=>Sum.rec (λu=>bif(u.1.2 !=0)then some (Sum.inr (Sum.inl u))else some (Sum.inl (Sum.inl u.2))) (λv=>bif(v.1.2 !=0)then some (Sum.inr (Sum.inr (Sum.inl v)))else some (Sum.inl (Sum.inl v.2))) r:=by
      show qa_B500x1q0 10000 (Px m (U:Int) o n) sh N=_;unfold qa_B500x1q0;rw[Bool.not_eq_true]at W;rw[W,yh]
    rw[hy,yb]at J;have Y:pc<f.2.2.2.2.length:=by rw[<-hI.inv.len];exact(yd.1 hx).1
    cases M:ND m f sh pc q with
    |none=>
      rw[M]at hm;have hno: ∀R,UG m f R->Ap sh R->False:=λR hR H=>by
        obtain⟨r,hr,_⟩:=LZ hc hf hI hR H;rw[M]at hr;cases hr
      obtain⟨st,rfl|rfl⟩:=hm
      · exact⟨_,b4 J,.inl ⟨pc,st,.inl rfl,Y,hno⟩⟩
      · exact⟨_,b4 J,.inl ⟨pc,st,.inr rfl,Y,hno⟩⟩
    |some r=>
      rw[M]at hm;obtain⟨o',n',O,hq',rfl⟩:=hm;obtain⟨i1,i2,i3,i4⟩:=SO hc hf hI M;have Z:=O8 r.1 i1.inv.all;rw[i1.inv.len]at Z;obtain⟨y',hy',hor⟩:=TV hc hf j r.1 r.2 O o' n' i1 hq' (i4 hN) (by omega) (by omega);refine⟨y',(b8 J).trans hy',?_⟩;have hgo: ∀R,UG m f R->Ap sh R->Ap r.1 R:=λR hR H=>by
        obtain⟨r',hr,V⟩:=LZ hc hf hI hR H;rw[M]at hr;obtain rfl:=ya hr;exact V
      rcases hor with ⟨pc',st,h1,h2,h3⟩|⟨c,K,m2'',h1,h2,h3,h4⟩
      · exact .inl ⟨pc',st,h1,h2,λR hR H=>h3 R hR (hgo R hR H)⟩
      · exact .inr ⟨c,K,m2'',h1,h2,h3,λR hR H=>h4 R hR (hgo R hR H)⟩
theorem Qg{m:bM}{f:i7}(hL:1≤f.2.2.2.2.length):QW m f ((List.replicate f.2.2.2.2.length ((false,[]):dJ)).set 0 (true,[])) [0]:=by
 have H:=N4 hL;refine⟨H,λt ht=>?_,λk J=>?_⟩
 ·rw[yh1.1 ht];exact⟨0,(true,[]),rfl,by rw[yt (by simp;omega)],rfl⟩
 ·by_cases e:k=0
  ·subst e;exact .inl (yh1.2 rfl)
  ·refine .inr (J3 (x:=(false,[])) ?_ (yf J) (by simp) λh=>by cases h);rw[yo (λh=>e h.symm),yu1,if_pos J]
theorem L4{m:bM}{M:Nat}{f:i7}(hc:dA m=0)(hf:m.funcs[M]?=some f)(hL:1≤f.2.2.2.2.length)(Z:f.2.2.2.2.length≤64):
    ∃y,qa 10000 (m.recs,(m.funcs,(m.imps,(m.ints,(m.texts,(M:Int))))))=some y/\
      ((∃ (pc : Nat) (st : S6 × List dJ × List Int), y = Sum.inl (((pc : Int), 4), st) ∧ pc < f.2.2.2.2.length ∧ ∀ R, JH m f R = true → False) ∨
       ∃c J K,y=Sum.inl ((0,0),(c,(J,K)))/\KF m f J/\CH J/\∀R,JH m f R=true->Ap J R):=by
  obtain⟨y,hy,Y⟩:=TV hc hf 10000 ((List.replicate f.2.2.2.2.length ((false,[]):dJ)).set 0 (true,[])) [0] [0] 0 1 (Qg hL) (QR.whole [0]) (Qx _) (by simp;omega) (by simp;omega);have H:qa 10000 (m.recs,(m.funcs,(m.imps,(m.ints,(m.texts,(M:Int))))))=(qa_W500x1 10000 (Sum.inl (Px m (M:Int) 0 1,((List.replicate f.2.2.2.2.length ((false,[]):dJ)).set 0 (true,[]),[0])))).bind λr=>Sum.rec (λu=>some (Sum.inl u)) (λv=>Sum.rec (λu=>some (Sum.inl u)) (λv=>some (Sum.inr v)) v) r:=by
    unfold qa;have d1:decide ((0:Int)≤((f.2.2.2.2.length:Nat):Int))=true:=decide_eq_true (by omega);have d2:Nat.ble f.2.2.2.2.length 4294967296=true:=yr1 (by omega);simp only[aP,hf,yb,aD,beq_self_eq_true,d1,d2,yi1,yg,yy];have hm:qn 10000 0 ([]:List cZ) (m.recs,(m.funcs,(m.imps,(m.ints,(m.texts,(M:Int)))))) (List.replicate f.2.2.2.2.length ((false,[]):dJ))=some (Sum.inl (true,(Px m (M:Int) 0 1,((List.replicate f.2.2.2.2.length ((false,[]):dJ)).set 0 (true,[]),[0])))):=by
      unfold qn;have d3:decide ((0:Int)<(((List.replicate f.2.2.2.2.length ((false,[]):dJ)).length:Nat):Int))=true:=decide_eq_true (by simp;omega);have hg:(List.replicate f.2.2.2.2.length ((false,[]):dJ))[0]?=some (false,[]):=by rw[yu1,if_pos (by omega)]
      have hs: ∀v:dJ,((List.replicate f.2.2.2.2.length ((false,[]):dJ)).set 0 v)[0]?=some v:=λv=>by rw[yt (by simp;omega)]
      simp only[Int.le_refl,decide_true,d3,yi1,yg,Int.toNat_zero,hg,yb,yc3,I4 10000 [] (by simp),Mk,hs,List.set_set];rfl
    rw[hm,yb]
    show(bif(true&&decide ((0:Int)≤((f.2.2.2.2.length:Nat):Int)))&&true then _ else none)=_
    rw[d1];rfl
  have W:qa_W500x1 10000 (Sum.inl (Px m (M:Int) 0 1,((List.replicate f.2.2.2.2.length ((false,[]):dJ)).set 0 (true,[]),[0])))=some y:=hy;rw[W,yb]at H;rcases Y with ⟨pc,st,rfl|rfl,U,V⟩|⟨c,J,K,rfl,U,V,h4⟩
  · exact⟨_,H,.inl ⟨pc,st,rfl,U,λR hR=>by obtain⟨O,N⟩:=GR hL hR;exact V R O N⟩⟩
  · exact⟨_,H,.inl ⟨pc,st,rfl,U,λR hR=>by obtain⟨O,N⟩:=GR hL hR;exact V R O N⟩⟩
  · exact⟨_,H,.inr ⟨c,J,K,rfl,U,V,λR hR=>by obtain⟨O,N⟩:=GR hL hR;exact h4 R O N⟩⟩
end Sx
end
section
namespace Sx
open Go Go.Ab
def Rp(m:bM)(f:i7)(sh:List dJ):Prop:=KF m f sh/\CH sh/\∀R,JH m f R=true->Ap sh R
def Cg(m:bM)(maps:List (List dJ)):Prop:=maps.length=m.funcs.length/\∀(k:Nat) (f:i7),m.funcs[k]?=some f->∃sh,maps[k]?=some sh/\Rp m f sh
theorem KW(m:bM)(hm:o6 m=true): ∃y,qam_W1 10000 ((aC m.funcs,0),(fC m,([]:List (List dJ))))=some y/\
    ((∃ (k pc : Nat) (f : i7) (a : List (List dJ)) (c : S6) (sh : List dJ) (q : List Int), y = Sum.inl (((k : Int), ((pc : Int), 4)), (fC m, (a, (c, (sh, (q, [])))))) ∧ m.funcs[k]? = some f ∧ pc < f.2.2.2.2.length ∧ ∀ R, JH m f R = true → False) ∨
     ∃N,y=Sum.inr (Sum.inr (fC m,N))/\Cg m N):=by
  have hc:=AR hm;have M:=(eM hc).1;simp only[fI,yc,decide_eq_true_eq,yf1]at M;obtain⟨_,_,_,hf8,hff,_⟩:=M;refine Cl (xs:=m.funcs) (mk:=λi (a:List (List dJ))=>((aC m.funcs,(i:Int)),(fC m,a))) (I:=λi a=>a.length=i/\∀(k:Nat) (f:i7),k<i->m.funcs[k]?=some f->∃sh,a[k]?=some sh/\Rp m f sh) ?_ ?_ m.funcs.length 0 10000 [] (by omega) ⟨rfl,λk f h=>absurd h (by omega)⟩ (by omega)
  · intro i a f H ⟨W,i2⟩
    have hi:i<m.funcs.length:=(yd.1 H).1;have V:=hff f (yk H);simp only[BG,yc,decide_eq_true_eq]at V;obtain⟨_,_,_,hc1,O,_⟩:=V;obtain⟨y,hy,hor⟩:=L4 hc H hc1 O
    have J: ∀(u:(Int×Int)×S6×List dJ×List Int),y=Sum.inl u->qam_B1 10000 (aC m.funcs) (i:Int) m.recs m.funcs m.imps m.ints m.texts a=(bif(u.1.2 !=0)then some (Sum.inr (Sum.inl (((i:Int),u.1),(fC m,(a,(u.2.1,(u.2.2.1,(u.2.2.2,[]))))))))
        else bif(Nat.ble (List.length (a++ [u.2.2.1])) 4294967296)then some (Sum.inl ((aC m.funcs,aX .i64 (i:Int) 1),(fC m,a++ [u.2.2.1])))else none):=by
      rintro u rfl
      unfold qam_B1;rw[decide_eq_true (by rw[aD];omega),yg,hy,yb]
    rcases hor with ⟨pc,st,rfl,U,Z⟩|⟨c,K,m2',rfl,U,Z,h4⟩
    · exact .inr ⟨_,(J _ rfl).trans rfl,.inl ⟨i,pc,f,a,st.1,st.2.1,st.2.2,rfl,H,U,Z⟩⟩
    · refine .inl ⟨a++ [K],(J _ rfl).trans ?_,by simp[W],λk g Y hg=>?_⟩
      · show(bif(Nat.ble (List.length (a++ [K])) 4294967296)then some (Sum.inl ((aC m.funcs,aX .i64 (i:Int) 1),(fC m,a++ [K])))else none)=_
        rw[yr1 (by simp;omega),yg,cL (by omega) (by omega)];rfl
      · by_cases hki:k=i
        · subst hki
          rw[H]at hg;obtain rfl:=ya hg;exact⟨K,by rw[<-W];simp,U,Z,h4⟩
        · obtain⟨sh,h1,U⟩:=i2 k g (by omega) hg
          exact⟨sh,by rw[yq (yd.1 h1).1];exact h1,U⟩
  · intro a ⟨W,i2⟩
    refine⟨Sum.inr (Sum.inr (fC m,a)),?_,.inr ⟨a,rfl,W,λk f Y=>i2 k f (yd.1 Y).1 Y⟩⟩;show qam_B1 10000 (aC m.funcs) (m.funcs.length:Int) m.recs m.funcs m.imps m.ints m.texts a=_;unfold qam_B1;rw[aD,decide_eq_false (by omega),yh]
theorem QC(m:bM)(O:Rj m): ∃H J pc e,qam 10000 m.recs m.funcs m.imps m.ints m.texts=some (H,(J,(pc,e)))/\
    ((dA m ≠ 0 ∧ H = [] ∧ J = 0 ∧ pc = 0 ∧ e = dA m) ∨ (dA m = 0 ∧ o6 m = false ∧ H = [] ∧ J = 0 ∧ pc = 0 ∧ e = 1) ∨
     (o6 m=true/\H= []/\e=4/\(∃(k p:Nat) (f:i7),J=(k:Int)/\pc=(p:Int)/\m.funcs[k]?=some f/\p<f.2.2.2.2.length)/\∀U,Ow m U=true->False)\/
     (o6 m = true ∧ J = 0 ∧ pc = 0 ∧ e = 0 ∧ Cg m H)) := by
  unfold qam;rw[KQ 10000 m O (by omega),yb];by_cases hc:dA m=0
  · rw[hc,show((0:Int) !=0)=false from rfl,yh,Tf 10000 m O (by omega),yb]
    cases hm:o6 m with
    |false=>exact⟨_,_,_,_,rfl,.inr (.inl ⟨rfl,rfl,rfl,rfl,rfl,rfl⟩)⟩
    |true=>
      rw[yf2,yh];obtain⟨y,Y,N⟩:=KW m hm;rw[show(qam_W1 10000 ((aC m.funcs,0),((m.recs,(m.funcs,(m.imps,(m.ints,m.texts)))),([]:List (List dJ)))))=some y from Y,yb];rcases N with ⟨k,pc,f,a,c,sh,q,rfl,K,V,W⟩|⟨H,rfl,K⟩
      · exact⟨_,_,_,_,rfl,.inr (.inr (.inl ⟨rfl,rfl,rfl,⟨k,pc,f,rfl,rfl,K,V⟩,λU M=>by obtain⟨R,hR⟩:=Re M K;exact W R hR⟩))⟩
      · exact⟨_,_,_,_,rfl,.inr (.inr (.inr ⟨rfl,rfl,rfl,rfl,K⟩))⟩
  · rw[show(dA m !=0)=true by simpa using hc,yg]
    exact⟨_,_,_,_,rfl,.inl ⟨hc,rfl,rfl,rfl,rfl⟩⟩
end Sx
end
section
namespace Sx
open Go Go.Ab
theorem Dt{m:bM}(hm:o6 m=true){a:List (List dJ)}(h:Cg m a):a.length≤8/\∀sh∈a,sh.length≤64/\∀x∈sh,x.2.length≤8:=by
 have H:=(eM (AR hm)).1;simp only[fI,yc,decide_eq_true_eq,yf1]at H;obtain⟨_,_,_,M,O,_⟩:=H;refine⟨by rw[h.1];exact M,λsh K=>?_⟩;obtain⟨k,U⟩:=List.mem_iff_getElem?.1 K;have N:k<m.funcs.length:=by rw[<-h.1];exact(yd.1 U).1
 obtain⟨f,hf⟩: ∃f,m.funcs[k]?=some f:=⟨_,yf N⟩
 obtain⟨x,V,W,_⟩:=h.2 k f hf;rw[U]at V;obtain rfl:=ya V;have J:=O f (yk hf);simp only[BG,yc,decide_eq_true_eq]at J;exact⟨by rw[W.1.len];exact J.2.2.2.2.1,λy Y=>(W.1.all y Y).2⟩
end Sx
end
