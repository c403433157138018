/- Plain laws. -/
import Derived.Test.YtjjjbgicidhpfaaDoorLaw2
set_option linter.unusedVariables false
set_option linter.unusedSimpArgs false
section
namespace Sx
open Go Go.Ab
theorem E8:qai 10000=some true:=by kernel_rfl
abbrev El:=Int×Int×Int×Int×Int×Int
noncomputable def lH(m:aX)(f:gH)(i:BL)(x:bT):El:=
 if x.1=true then(i.1,(i.2.1,(i.2.2,(((f.1.length+f.2.2.2.1.length+x.2.length:Nat):Int)-((dK m f i x.2).1.length:Int),(((dK m f i x.2).1.length:Int),((dK m f i x.2).2.1.length:Int))))))else(0,(0,(0,(0,(0,0)))))
noncomputable def J8(m:aX)(f:gH)(sh:List bT):List El:=List.zipWith (lH m f) f.2.2.2.2 sh
noncomputable def mR(m:aX)(maps:List (List bT)):List (List El):=List.zipWith (J8 m) m.funcs maps
theorem D9{A B C:Type}{g:A->B->C}{a:List A}{b:List B}{k:Nat}{x:A}{y:B}(J:a[k]?=some x)(H:b[k]?=some y):(List.zipWith g a b)[k]?=some (g x y):=by
 rw[List.getElem?_zipWith,J,H]
structure Ke (m:aX) (fk:Nat) (f:gH) (sh:List bT):Prop where
 hc:bQ m=0
 hf:m.funcs[fk]?=some f
 len:sh.length=f.2.2.2.2.length
 l64:f.2.2.2.2.length≤64
 loc:f.1.length+f.2.2.2.1.length≤200
 inv:pI f.2.2.2.2.length sh
 ok: ∀pc,pc<f.2.2.2.2.length->sU m f sh pc=true
theorem QY{m:aX}(hm:fR m=true){H:List (List bT)}(h:jU m H){k:Nat}{f:gH}(hf:m.funcs[k]?=some f): ∃sh,H[k]?=some sh/\Ke m k f sh:=by
 obtain⟨sh,O,M,_⟩:=h.2 k f hf;have hc:=fO hm;have N:=(gM (eA hc).1).2.2.2.1 f (yj hf);have J:=(eA hc).1;simp only[c8,yc,decide_eq_true_eq,ya1]at J;have K:=J.2.2.2.2.1 f (yj hf);simp only[qP,yc,decide_eq_true_eq]at K;exact⟨sh,O,hc,hf,M.1.len,K.2.2.2.2.1,by have:=N.2;omega,M.1,M.2⟩
theorem Ke.seen{m:aX}{K:Nat}{f:gH}{sh:List bT}(h:Ke m K f sh){pc:Nat}{x:bT}{i:BL}(Y:sh[pc]?=some x)(H:f.2.2.2.2[pc]?=some i):
  x.2.length≤8/\qbt 10000 m.recs m.funcs m.imps m.ints m.texts f.1 f.2.1 f.2.2.1 f.2.2.2.1 f.2.2.2.2 i.1 i.2.1 i.2.2 x.2=some (dK m f i x.2)/\
  qay 10000 m.recs m.funcs m.imps m.ints m.texts (K:Int) (pc:Int) x.2=some (((dK m f i x.2).1.length:Int),((dK m f i x.2).2.1.length:Int))/\
  (dK m f i x.2).1.length≤200/\(dK m f i x.2).2.1.length≤200/\
  (x.1 = true → (dK m f i x.2).1.length ≤ x.2.length ∧ x.2.length - (dK m f i x.2).1.length + (dK m f i x.2).2.1.length ≤ 8 ∧
   (bL m f i (pc : Int) x.2).1.length = x.2.length - (dK m f i x.2).1.length + (dK m f i x.2).2.1.length ∧ ∀ t ∈ (bL m f i (pc : Int) x.2).2.1, dI sh (bL m f i (pc : Int) x.2).1 t = true) := by
 have M:=(yd.1 H).1;obtain⟨o1,Z⟩:=Db Y H (h.ok pc M);obtain⟨_,_,O,_⟩:=jK m K pc f i x.2 h.hc h.hf H (by omega);have hb:=((gM (eA h.hc).1).2.2.2.1 f (yj h.hf)).1 i (yj H);obtain⟨r,hr,U,l2⟩:=KL 10000 m f i x.2 h.hc (yj h.hf) (yj H) (by omega);have J:dK m f i x.2=r:=by unfold dK;rw[hr];rfl
 refine⟨o1,O,?_,by rw[J];exact U,by rw[J];exact l2,λh1=>?_⟩
 ·unfold qay;rw[aE,h.hf,ya,ya,aE,H,ya,QQ 10000 m f i x.2 hb (by have:=h.loc;omega) (by omega),O,yl,ya];rfl
 ·obtain⟨p1,p2⟩:=Z h1;obtain⟨k1,W,V,k4,k5,N⟩:=If p1;have N:bL m f i (pc:Int) x.2=(x.2.take (x.2.length-(dK m f i x.2).1.length)++(dK m f i x.2).2.1,Gk i (pc:Int),0):=N;refine⟨W,V,?_,p2⟩;rw[N,yi,yj2];have:min (x.2.length-(dK m f i x.2).1.length) x.2.length=x.2.length-(dK m f i x.2).1.length:=by omega
  rw[this]
theorem VY{a b c d:Nat}(ha:a+b≤200)(hc:c≤8)(hd:d≤200):bY .i64 (aK .i64 (aK .i64 (a:Int) (b:Int)) (c:Int)) (d:Int)=((a+b+c:Nat):Int)-(d:Int):=by
 rw[aW (a:=(a:Int)) (b:=(b:Int)) (by omega) (by omega),aW (by omega) (by omega),cW (by omega) (by omega)];omega
theorem Dt{A B C:Type}{g:A->B->C}{z:C}{a:List A}{b:List B}{j:Nat}{x:A}{y:B}(hl:a.length=b.length)(J:a[j]?=some x)(K:b[j]?=some y)(v:C)(M:v=g x y):
  (List.zipWith g (a.take j) (b.take j)++List.replicate (a.length-j) z).set j v=List.zipWith g (a.take (j+1)) (b.take (j+1))++List.replicate (a.length-(j+1)) z:=by
 have hj:=(yd.1 J).1;have H:(List.zipWith g (a.take j) (b.take j)).length=j:=by simp;omega
 rw[List.set_append_right j _ (by omega),H,Nat.sub_self,show a.length-j=(a.length-(j+1))+1 by omega,yz3,List.set_cons_zero,
  ye3 (i:=j),ye3 (i:=j),J,K,List.zipWith_append (by simp;omega),M]
 simp
theorem Ur{m:aX}{J:Nat}{f:gH}{sh:List bT}(h:Ke m J f sh)(H:List (List bT))(hm:H[J]?=some sh)(fs:List gH)(K:Int)(N:List (List El)):
  LR 10000 ((H,((J:Int),(fs,(K,((J:Int),(f.2.2.2.2,(aC f.2.2.2.2,0))))))),(aL m,(N,(f,List.replicate f.2.2.2.2.length (0,(0,(0,(0,(0,0)))))))))=some ((H,(fs,(K,(J:Int)))),(aL m,(N,(f,J8 m f sh)))):=by
 refine eQ (f:=λj:Nat=>((H,((J:Int),(fs,(K,((J:Int),(f.2.2.2.2,(aC f.2.2.2.2,(j:Int)))))))),(aL m,(N,(f,List.zipWith (lH m f) (f.2.2.2.2.take j) (sh.take j)++List.replicate (f.2.2.2.2.length-j) ((0,(0,(0,(0,(0,0))))):El))))))
  (k:=f.2.2.2.2.length) (λj O=>?_) ?_ f.2.2.2.2.length 0 10000 (by omega) (by have:=h.l64;omega)
 ·obtain⟨i,hi⟩: ∃i,f.2.2.2.2[j]?=some i:=⟨_,ye O⟩
  obtain⟨x,hx⟩: ∃x,sh[j]?=some x:=⟨_,ye (by rw[h.len];exact O)⟩
  obtain⟨o1,e3,Z,W,l2,_⟩:=h.seen hx hi;show Ej 10000 H (J:Int) fs K (J:Int) f.2.2.2.2 (aC f.2.2.2.2) (j:Int) m.recs m.funcs m.imps m.ints m.texts N f.1 f.2.1 f.2.2.1 f.2.2.2.1 f.2.2.2.2 _=_;have d:decide ((j:Int)<aC f.2.2.2.2)=true:=decide_eq_true (by rw[aB];omega);have U:=h.l64;unfold Ej;simp only[d,yh,aE,hi,hx,hm,ya,Z,qcv];rw[aW (a:=(j:Int)) (by omega) (by omega)];cases V:x.1 with
  |false=>
   rw[yo2,yh];have Y:=Dt (g:=lH m f) (z:=((0,(0,(0,(0,(0,0))))):El)) h.len.symm hi hx (0,(0,(0,(0,(0,0))))) (by unfold lH;rw[V];rfl);rw[<-Y,H6]
   ·rfl
   ·have M:(List.zipWith (lH m f) (f.2.2.2.2.take j) (sh.take j)).length=j:=by simp[h.len];omega
    rw[yy (by omega),M,Nat.sub_self,yt1,if_pos (by omega)]
  |true=>
   rw[yf1,yg];have M:(List.zipWith (lH m f) (f.2.2.2.2.take j) (sh.take j)++List.replicate (f.2.2.2.2.length-j) ((0,(0,(0,(0,(0,0))))):El)).length=f.2.2.2.2.length:=by simp[h.len];omega
   rw[M,decide_eq_true (by omega),decide_eq_true (by omega),yj1,yh,yz,yl1 (by omega),yh,aB f.1,aB f.2.2.2.1,aB x.2,VY h.loc o1 W,
    Dt h.len.symm hi hx _ (by unfold lH;rw[if_pos V])]
   rfl
 ·show Ej 10000 H (J:Int) fs K (J:Int) f.2.2.2.2 (aC f.2.2.2.2) (f.2.2.2.2.length:Int) m.recs m.funcs m.imps m.ints m.texts N f.1 f.2.1 f.2.2.1 f.2.2.2.1 f.2.2.2.2 _=_;unfold Ej;rw[aB,decide_eq_false (by omega),yg,Nat.sub_self,List.replicate_zero,ys1,yu2,yp2 (by rw[h.len];exact yb1 _)];rfl
theorem U1{m:aX}(hm:fR m=true){H:List (List bT)}(h:jU m H):TE 10000 m.recs m.funcs m.imps m.ints m.texts H=some (mR m H):=by
 have h8:=(jL hm h).1;have hl:=h.1;have hW:Hk 10000 ((H,(m.funcs,(aC m.funcs,0))),(aL m,([]:List (List El))))=some (aL m,mR m H):=by
  refine eQ (f:=λj:Nat=>((H,(m.funcs,(aC m.funcs,(j:Int)))),(aL m,List.zipWith (J8 m) (m.funcs.take j) (H.take j)))) (k:=m.funcs.length) (λj M=>?_) ?_ m.funcs.length 0 10000 (by omega) (by omega)
  ·obtain⟨f,hf⟩: ∃f,m.funcs[j]?=some f:=⟨_,ye M⟩
   obtain⟨sh,J,K⟩:=QY hm h hf;show CF 10000 H m.funcs (aC m.funcs) (j:Int) m.recs m.funcs m.imps m.ints m.texts _=_;have d:decide ((j:Int)<aC m.funcs)=true:=decide_eq_true (by rw[aB];omega);have O:decide ((0:Int)≤aC f.2.2.2.2)=true:=decide_eq_true (by rw[aB];omega);have N:Nat.ble (Int.toNat (aC f.2.2.2.2)) 4294967296=true:=yl1 (by rw[aB,yz];have:=K.l64;omega);unfold CF;simp only[d,O,N,yh,aE,hf,ya,beq_self_eq_true,yj1];rw[show Int.toNat (aC f.2.2.2.2)=f.2.2.2.2.length by rw[aB,yz],Ur K H J m.funcs (aC m.funcs),ya]
   show(bif Nat.ble (List.length (List.zipWith (J8 m) (m.funcs.take j) (H.take j)++ [J8 m f sh])) 4294967296 then some (Sum.inl ((H,(m.funcs,(aC m.funcs,aK .i64 (j:Int) 1))),(aL m,List.zipWith (J8 m) (m.funcs.take j) (H.take j)++ [J8 m f sh])))else none)=_
   rw[yl1 (by simp;omega),yh,aW (by omega) (by omega),ye3 (i:=j),ye3 (i:=j),hf,J,List.zipWith_append (by simp;omega)];rfl
  ·show CF 10000 H m.funcs (aC m.funcs) (m.funcs.length:Int) m.recs m.funcs m.imps m.ints m.texts _=_;unfold CF;rw[aB,decide_eq_false (by omega),yg,yu2,yp2 (by omega)];rfl
 unfold TE;rw[show Hk 10000 ((H,(m.funcs,(aC m.funcs,0))),((m.recs,(m.funcs,(m.imps,(m.ints,m.texts)))),([]:List (List El))))=_ from hW];rfl
theorem Ch(m:aX)(U:Hi m): ∃l e,qbo 10000 m.recs m.funcs m.imps m.ints m.texts=some (l,e)/\
  ((bQ m≠0/\l= []/\e=bQ m)\/(bQ m=0/\fR m=false/\l= []/\e=1)\/(fR m=true/\l= []/\e=4/\∀N,iG m N=true->False)\/∃H,fR m=true/\e=0/\jU m H/\l=mR m H):=by
 unfold qbo;obtain⟨H,fi,pc,e,V,h⟩:=AJ m U;rw[V,ya];rcases h with ⟨J,rfl,rfl,rfl,rfl⟩|⟨J,M,rfl,rfl,rfl,rfl⟩|⟨J,rfl,rfl,_,O⟩|⟨J,rfl,rfl,rfl,K⟩
 ·exact⟨[],bQ m,by rw[show(bQ m !=0)=true by simpa using J];rfl,.inl ⟨J,rfl,rfl⟩⟩
 ·exact⟨_,_,rfl,.inr (.inl ⟨J,M,rfl,rfl⟩)⟩
 ·exact⟨_,_,rfl,.inr (.inr (.inl ⟨J,rfl,rfl,O⟩))⟩
 ·refine⟨mR m H,0,?_,.inr (.inr (.inr ⟨H,J,rfl,K,rfl⟩))⟩
  show(TE 10000 m.recs m.funcs m.imps m.ints m.texts H).bind _=_
  rw[U1 J K];rfl
end Sx
end
section
namespace Sx
open Go Go.Ab
theorem Mk{m:aX}{H:List (List bT)}{k:Nat}{f:gH}{sh:List bT}(hf:m.funcs[k]?=some f)(hs:H[k]?=some sh):(mR m H)[k]?=some (J8 m f sh):=D9 hf hs
theorem Hw{m:aX}{H:List (List bT)}(h:H.length=m.funcs.length):(mR m H).length=m.funcs.length:=by unfold mR;simp[h]
theorem Hs{m:aX}{H:Nat}{f:gH}{sh:List bT}(h:Ke m H f sh):(J8 m f sh).length=f.2.2.2.2.length:=by unfold J8;simp[h.len]
theorem Vb{m:aX}{J:Nat}{f:gH}{sh:List bT}(h:Ke m J f sh)(H:List (List bT))(l:List (List El))(hm:H[J]?=some sh)(U:l[J]?=some (J8 m f sh)):
  iF 10000 ((l,(H,((J:Int),0))),(aL m,f))=some (Sum.inr (Sum.inr ((l,(H,(J:Int))),(aL m,f)))):=by
 have Y:=h.l64;have K:=Hs h;refine eQ (f:=λj:Nat=>((l,(H,((J:Int),(j:Int)))),(aL m,f))) (k:=f.2.2.2.2.length) (λj N=>?_) ?_ f.2.2.2.2.length 0 10000 (by omega) (by omega)
 ·obtain⟨i,hi⟩: ∃i,f.2.2.2.2[j]?=some i:=⟨_,ye N⟩
  obtain⟨x,hx⟩: ∃x,sh[j]?=some x:=⟨_,ye (by rw[h.len];exact N)⟩
  obtain⟨Z,e3,e4,V,l2,_⟩:=h.seen hx hi;have W:(J8 m f sh)[j]?=some (lH m f i x):=D9 hi hx;show fK 10000 l H (J:Int) (j:Int) m.recs m.funcs m.imps m.ints m.texts f.1 f.2.1 f.2.2.1 f.2.2.2.1 f.2.2.2.2=_;have d:decide ((j:Int)<aC (J8 m f sh))=true:=decide_eq_true (by rw[aB];omega);unfold fK;simp only[aE,U,hm,hi,hx,W,d,yh,ya,e3];rw[aW (a:=(j:Int)) (by omega) (by omega)];cases O:x.1 with
  |false=>
   have M:lH m f i x=(0,(0,(0,(0,(0,0))))):=by unfold lH;rw[O];rfl
   rw[M];rfl
  |true=>
   have M:lH m f i x=(i.1,(i.2.1,(i.2.2,(((f.1.length+f.2.2.2.1.length+x.2.length:Nat):Int)-((dK m f i x.2).1.length:Int),(((dK m f i x.2).1.length:Int),((dK m f i x.2).2.1.length:Int)))))):=by unfold lH;rw[if_pos O]
   rw[M,aB f.1,aB f.2.2.2.1,aB x.2,aB (dK m f i x.2).1,aB (dK m f i x.2).2.1,VY h.loc Z V];simp only[beq_self_eq_true,yj1,yf1,yg];rfl
 ·show fK 10000 l H (J:Int) (f.2.2.2.2.length:Int) m.recs m.funcs m.imps m.ints m.texts f.1 f.2.1 f.2.2.1 f.2.2.2.1 f.2.2.2.2=_;unfold fK;rw[aE,U,ya,aB,K,decide_eq_false (by omega),yg]
theorem VN{m:aX}(hm:fR m=true){H:List (List bT)}(h:jU m H):fH 10000 ((mR m H,(H,0)),aL m)=some (Sum.inr (Sum.inr (Sum.inr (aL m)))):=by
 have h8:=(jL hm h).1;have hl:=h.1;have O:=Hw h.1;refine eQ (f:=λj:Nat=>((mR m H,(H,(j:Int))),aL m)) (k:=m.funcs.length) (λj N=>?_) ?_ m.funcs.length 0 10000 (by omega) (by omega)
 ·obtain⟨f,hf⟩: ∃f,m.funcs[j]?=some f:=⟨_,ye N⟩
  obtain⟨sh,J,K⟩:=QY hm h hf;have M:=Mk hf J;show fM 10000 (mR m H) H (j:Int) m.recs m.funcs m.imps m.ints m.texts=_;unfold fM
  rw[aB,decide_eq_true (by omega),yh,aE,hf,ya,aE,M,ya,Bq,Hs K,decide_eq_true rfl,yf1,yg,
   show iF 10000 ((mR m H,(H,((j:Int),0))),((m.recs,(m.funcs,(m.imps,(m.ints,m.texts)))),f))=_ from Vb K H _ J M,ya]
  show some (Sum.inl ((mR m H,(H,aK .i64 (j:Int) 1)),aL m))=_;rw[aW (by omega) (by omega)];rfl
 ·show fM 10000 (mR m H) H (m.funcs.length:Int) m.recs m.funcs m.imps m.ints m.texts=_;unfold fM;rw[aB,decide_eq_false (by omega),yg]
theorem NI(m:aX)(W:Hi m)(hl:Ow m):kT 10000 m.recs m.funcs m.imps m.ints m.texts=some true:=by
 unfold kT;obtain⟨b,hb,hL⟩:=lU 10000 m hl (by omega);rw[hb,ya,E8];cases b with
 |false=>rfl
 |true=>
  have hL:=hL rfl;obtain⟨l,e,hv,h⟩:=Ch m W;rw[yf1,yg,hv,ya,zT 10000 m W hL (by omega),ya,nE 10000 m W hL (by omega)];rcases h with ⟨H,rfl,rfl⟩|⟨H,h2,rfl,rfl⟩|⟨H,rfl,rfl,Z⟩|⟨J,H,rfl,O,rfl⟩
  ·have U:(bQ m==0)=false:=by simpa using H
   have N:(bQ m !=0)=true:=by simpa using H
   simp only[U,N,yg,yh,ya,beq_self_eq_true];rfl
  ·rw[H,h2];rfl
  ·obtain⟨mp,ok,K,M⟩:=De m H;rw[fO H,H,K];rcases M with ⟨rfl,_,_⟩|⟨rfl,Y,V⟩
   ·rfl
   ·exact(Z mp (lQ H ⟨Y,V⟩)).elim
  ·obtain⟨mp,ok,K,M⟩:=De m H;rw[fO H,H,K];rcases M with ⟨rfl,_,q⟩|⟨rfl,Y,V⟩
   ·exact(q J (lQ H O)).elim
   ·obtain rfl:=IC O ⟨Y,V⟩;have hW:=VN H O;simp only[beq_self_eq_true,yh,ya,yf1,yg,bne_self_eq_false,Bq,Hw O.1,decide_true];rw[show fH 10000 ((mR m J,(J,0)),(m.recs,(m.funcs,(m.imps,(m.ints,m.texts)))))=_ from hW];rfl
theorem UR{m:aX}{H:Nat}{f:gH}{sh:List bT}(h:Ke m H f sh):qdb 10000 m.recs m.funcs m.imps m.ints m.texts (H:Int)=some (((f.1.length+f.2.2.2.1.length+8:Nat):Int)):=by
 have hk:=(yd.1 h.hf).1;have hl:=h.loc;unfold qdb;rw[decide_eq_false (by omega),yg,decide_eq_false (by rw[aB];omega),yg,aE,h.hf,ya];unfold qcv;rw[ya,aB,aB,aW (a:=(f.1.length:Int)) (by omega) (by omega),aW (by omega) (by omega)];congr 1
theorem Vj{m:aX}{H:Nat}{f:gH}{sh:List bT}(h:Ke m H f sh)(l:List (List El))(M:l[H]?=some (J8 m f sh)):
  mE 10000 ((l,((H:Int),(((f.1.length+f.2.2.2.1.length+8:Nat):Int),0))),aL m)=some (Sum.inr ((l,(H:Int)),aL m)):=by
 have O:=h.l64;have V:=h.loc;have J:=Hs h;refine eQ (f:=λj:Nat=>((l,((H:Int),(((f.1.length+f.2.2.2.1.length+8:Nat):Int),(j:Int)))),aL m)) (k:=f.2.2.2.2.length) (λj K=>?_) ?_ f.2.2.2.2.length 0 10000 (by omega) (by omega)
 ·obtain⟨i,hi⟩: ∃i,f.2.2.2.2[j]?=some i:=⟨_,ye K⟩
  obtain⟨x,hx⟩: ∃x,sh[j]?=some x:=⟨_,ye (by rw[h.len];exact K)⟩
  obtain⟨o1,e3,e4,l1,l2,hs⟩:=h.seen hx hi;have N:(J8 m f sh)[j]?=some (lH m f i x):=D9 hi hx;show jN 10000 l (H:Int) ((f.1.length+f.2.2.2.1.length+8:Nat):Int) (j:Int) m.recs m.funcs m.imps m.ints m.texts=_;have d:decide ((j:Int)<aC (J8 m f sh))=true:=decide_eq_true (by rw[aB];omega);unfold jN;simp only[aE,M,N,d,yh,ya];have W:0≤(lH m f i x).2.2.2.1/\0≤(lH m f i x).2.2.2.2.1/\0≤(lH m f i x).2.2.2.2.2/\(lH m f i x).2.2.2.1+(lH m f i x).2.2.2.2.1≤((f.1.length+f.2.2.2.1.length+8:Nat):Int)/\(lH m f i x).2.2.2.1+(lH m f i x).2.2.2.2.2≤((f.1.length+f.2.2.2.1.length+8:Nat):Int):=by
   unfold lH;cases U:x.1 with
   |false=>simp only[yt2,if_false];omega
   |true=>
    obtain⟨s1,s2,_⟩:=hs U;simp only[if_true];omega
  obtain⟨b1,b2,b3,b4,b5⟩:=W
  rw[decide_eq_false (by omega),yg,aW (a:=(lH m f i x).2.2.2.1) (b:=(lH m f i x).2.2.2.2.1) (by omega) (by omega),decide_eq_false (by omega),yg,aW (a:=(lH m f i x).2.2.2.1) (b:=(lH m f i x).2.2.2.2.2) (by omega) (by omega),decide_eq_false (by omega),yg,
   aW (by omega) (by omega)]
  rfl
 ·show jN 10000 l (H:Int) ((f.1.length+f.2.2.2.1.length+8:Nat):Int) (f.2.2.2.2.length:Int) m.recs m.funcs m.imps m.ints m.texts=_;unfold jN;rw[aE,M,ya,aB,J,decide_eq_false (by omega),yg]
theorem Vc{m:aX}(hm:fR m=true){H:List (List bT)}(h:jU m H):l7 10000 ((mR m H,0),aL m)=some (Sum.inr (aL m)):=by
 have h8:=(jL hm h).1;have hl:=h.1;have N:=Hw h.1;refine eQ (f:=λj:Nat=>((mR m H,(j:Int)),aL m)) (k:=m.funcs.length) (λj M=>?_) ?_ m.funcs.length 0 10000 (by omega) (by omega)
 ·obtain⟨f,hf⟩: ∃f,m.funcs[j]?=some f:=⟨_,ye M⟩
  obtain⟨sh,K,J⟩:=QY hm h hf;show jG 10000 (mR m H) (j:Int) m.recs m.funcs m.imps m.ints m.texts=_;unfold jG;rw[aB,decide_eq_true (by omega),yh,UR J,ya,show mE 10000 ((mR m H,((j:Int),(((f.1.length+f.2.2.2.1.length+8:Nat):Int),0))),(m.recs,(m.funcs,(m.imps,(m.ints,m.texts)))))=_ from Vj J _ (Mk hf K),ya];show some (Sum.inl ((mR m H,aK .i64 (j:Int) 1),aL m))=_;rw[aW (by omega) (by omega)];rfl
 ·show jG 10000 (mR m H) (m.funcs.length:Int) m.recs m.funcs m.imps m.ints m.texts=_;unfold jG;rw[aB,decide_eq_false (by omega),yg]
theorem UU(m:aX)(V:Hi m)(Y:Ow m):qV 10000 m.recs m.funcs m.imps m.ints m.texts=some true:=by
 unfold qV;obtain⟨b,W,hL⟩:=lU 10000 m Y (by omega);rw[W,ya,E8];cases b with
 |false=>rfl
 |true=>
  obtain⟨l,e,U,h⟩:=Ch m V;rw[yf1,yg,U,ya];rcases h with ⟨K,rfl,rfl⟩|⟨K,h2,rfl,rfl⟩|⟨K,rfl,rfl,h6⟩|⟨M,K,rfl,O,rfl⟩
  ·rw[show(bQ m !=0)=true by simpa using K];rfl
  ·rfl
  ·rfl
  ·rw[show((0:Int) !=0)=false from rfl,yg,show l7 10000 ((mR m M,0),(m.recs,(m.funcs,(m.imps,(m.ints,m.texts)))))=_ from Vc K O,ya];have r1:qdb 10000 m.recs m.funcs m.imps m.ints m.texts (Neg.neg 1)=some 0:=by unfold qdb;rw[decide_eq_true (by decide),yh]
   have N:qdb 10000 m.recs m.funcs m.imps m.ints m.texts (aC m.funcs)=some 0:=by unfold qdb;rw[decide_eq_false (by rw[aB];omega),yg,decide_eq_true (by omega),yh]
   show(some true).bind (λr:Bool=>bif r then(qdb 10000 m.recs m.funcs m.imps m.ints m.texts (Neg.neg 1)).bind λJ=>bif(J==0)then(qdb 10000 m.recs m.funcs m.imps m.ints m.texts (aC m.funcs)).bind λH=>some (H==0)else some false else some false)=_
   rw[r1,N];rfl
theorem Wb{m:aX}{K:Nat}{f:gH}{sh:List bT}(h:Ke m K f sh)(H:List (List bT))(l:List (List El))(hl:l[K]?=some (J8 m f sh)){j:Nat}{i:BL}{x:bT}(N:f.2.2.2.2[j]?=some i)(Y:sh[j]?=some x)(h1:x.1=true):
  iZ 10000 ((l,(H,((K:Int),((j:Int),((bL m f i (j:Int) x.2).2.1,0))))),aL m)=some (Sum.inr ((l,(H,((K:Int),(j:Int)))),aL m)):=by
 obtain⟨o1,e3,e4,l1,l2,hs⟩:=h.seen Y N;obtain⟨s1,s2,s3,s4⟩:=hs h1;obtain⟨_,_,_,_,q2,_⟩:=jK m K j f i x.2 h.hc h.hf N (by omega);have hlo:=h.loc;have hz:(J8 m f sh)[j]?=some (lH m f i x):=D9 N Y;refine eQ (f:=λp:Nat=>((l,(H,((K:Int),((j:Int),((bL m f i (j:Int) x.2).2.1,(p:Int)))))),aL m)) (k:=(bL m f i (j:Int) x.2).2.1.length) (λp hp=>?_) ?_ (bL m f i (j:Int) x.2).2.1.length 0 10000 (by omega) (by omega)
 ·obtain⟨t,ht⟩: ∃t,(bL m f i (j:Int) x.2).2.1[p]?=some t:=⟨_,ye hp⟩
  have hn:=s4 t (yj ht);have M:0≤t:=by
   unfold dI at hn;unfold aF at hn;by_cases Z:0≤t
   ·exact Z
   ·rw[decide_eq_false Z,yg]at hn;cases hn
  obtain⟨k,rfl⟩:=yc3 M;obtain⟨y,V,y1,y2⟩:=gX hn;have U:k<f.2.2.2.2.length:=by rw[<-h.len];exact(yd.1 V).1
  obtain⟨J,hi'⟩: ∃J,f.2.2.2.2[k]?=some J:=⟨_,ye U⟩
  obtain⟨o1',_,_,l1',_,hs'⟩:=h.seen V hi';have s1':=(hs' y1).1;have W:(J8 m f sh)[k]?=some (lH m f J y):=D9 hi' V;have hlen:=d9 y2;show f9 10000 l H (K:Int) (j:Int) (bL m f i (j:Int) x.2).2.1 (p:Int) m.recs m.funcs m.imps m.ints m.texts=_;have d:decide ((p:Int)<aC (bL m f i (j:Int) x.2).2.1)=true:=decide_eq_true (by rw[aB];omega);have hv:lH m f i x=(i.1,(i.2.1,(i.2.2,(((f.1.length+f.2.2.2.1.length+x.2.length:Nat):Int)-((dK m f i x.2).1.length:Int),(((dK m f i x.2).1.length:Int),((dK m f i x.2).2.1.length:Int)))))):=by unfold lH;rw[if_pos h1]
  have O:lH m f J y=(J.1,(J.2.1,(J.2.2,(((f.1.length+f.2.2.2.1.length+y.2.length:Nat):Int)-((dK m f J y.2).1.length:Int),(((dK m f J y.2).1.length:Int),((dK m f J y.2).2.1.length:Int)))))):=by unfold lH;rw[if_pos y1]
  unfold f9;simp only[d,yh,aE,hl,ht,hz,W,ya,hv,O]
  rw[aW (by omega) (by omega),aW (a:=((f.1.length+f.2.2.2.1.length+y.2.length:Nat):Int)-((dK m f J y.2).1.length:Int)) (by omega) (by omega),aW (a:=(p:Int)) (by omega) (by omega),
   show(((f.1.length+f.2.2.2.1.length+x.2.length:Nat):Int)-((dK m f i x.2).1.length:Int)+((dK m f i x.2).2.1.length:Int) !=((f.1.length+f.2.2.2.1.length+y.2.length:Nat):Int)-((dK m f J y.2).1.length:Int)+((dK m f J y.2).1.length:Int))=false by
    rw[bne_eq_false_iff_eq];omega,yg]
  rfl
 ·show f9 10000 l H (K:Int) (j:Int) (bL m f i (j:Int) x.2).2.1 ((bL m f i (j:Int) x.2).2.1.length:Int) m.recs m.funcs m.imps m.ints m.texts=_;unfold f9;rw[aB,decide_eq_false (by omega),yg]
theorem Ww{m:aX}{J:Nat}{f:gH}{sh:List bT}(h:Ke m J f sh)(H:List (List bT))(l:List (List El))(hm:H[J]?=some sh)(M:l[J]?=some (J8 m f sh)):
  iY 10000 ((l,(H,((J:Int),0))),aL m)=some (Sum.inr ((l,(H,(J:Int))),aL m)):=by
 have U:=h.l64;have K:=Hs h;refine eQ (f:=λj:Nat=>((l,(H,((J:Int),(j:Int)))),aL m)) (k:=f.2.2.2.2.length) (λj N=>?_) ?_ f.2.2.2.2.length 0 10000 (by omega) (by omega)
 ·obtain⟨i,hi⟩: ∃i,f.2.2.2.2[j]?=some i:=⟨_,ye N⟩
  obtain⟨x,hx⟩: ∃x,sh[j]?=some x:=⟨_,ye (by rw[h.len];exact N)⟩
  obtain⟨o1,_⟩:=h.seen hx hi;obtain⟨_,O,_⟩:=jK m J j f i x.2 h.hc h.hf hi (by omega);show fY 10000 l H (J:Int) (j:Int) m.recs m.funcs m.imps m.ints m.texts=_;have d:decide ((j:Int)<aC (J8 m f sh))=true:=decide_eq_true (by rw[aB];omega);unfold fY;simp only[aE,M,hm,hx,d,yh,ya,O];cases V:x.1 with
  |false=>
   rw[yo2,yh,aW (by omega) (by omega)];rfl
  |true=>
   rw[yf1,yg,show iZ 10000 ((l,(H,((J:Int),((j:Int),((bL m f i (j:Int) x.2).2.1,0))))),(m.recs,(m.funcs,(m.imps,(m.ints,m.texts)))))=_ from Wb h H l M hi hx V,ya];show some (Sum.inl ((l,(H,((J:Int),aK .i64 (j:Int) 1))),aL m))=_;rw[aW (by omega) (by omega)];rfl
 ·show fY 10000 l H (J:Int) (f.2.2.2.2.length:Int) m.recs m.funcs m.imps m.ints m.texts=_;unfold fY;rw[aE,M,ya,aB,K,decide_eq_false (by omega),yg]
theorem Wd{m:aX}(hm:fR m=true){H:List (List bT)}(h:jU m H):iX 10000 ((mR m H,(H,0)),aL m)=some (Sum.inr (aL m)):=by
 have h8:=(jL hm h).1;have hl:=h.1;have N:=Hw h.1;refine eQ (f:=λj:Nat=>((mR m H,(H,(j:Int))),aL m)) (k:=m.funcs.length) (λj M=>?_) ?_ m.funcs.length 0 10000 (by omega) (by omega)
 ·obtain⟨f,hf⟩: ∃f,m.funcs[j]?=some f:=⟨_,ye M⟩
  obtain⟨sh,J,K⟩:=QY hm h hf;show fX 10000 (mR m H) H (j:Int) m.recs m.funcs m.imps m.ints m.texts=_;unfold fX;rw[aB,decide_eq_true (by omega),yh,show iY 10000 ((mR m H,(H,((j:Int),0))),(m.recs,(m.funcs,(m.imps,(m.ints,m.texts)))))=_ from Ww K H _ J (Mk hf J),ya];show some (Sum.inl ((mR m H,(H,aK .i64 (j:Int) 1)),aL m))=_;rw[aW (by omega) (by omega)];rfl
 ·show fX 10000 (mR m H) H (m.funcs.length:Int) m.recs m.funcs m.imps m.ints m.texts=_;unfold fX;rw[aB,decide_eq_false (by omega),yg]
theorem Qt(m:aX)(V:Hi m)(Z:Ow m):lZ 10000 m.recs m.funcs m.imps m.ints m.texts=some true:=by
 unfold lZ;obtain⟨b,W,hL⟩:=lU 10000 m Z (by omega);rw[W,ya,E8];cases b with
 |false=>rfl
 |true=>
  obtain⟨l,e,U,h⟩:=Ch m V;rw[yf1,yg,U,ya];rcases h with ⟨J,rfl,rfl⟩|⟨J,h2,rfl,rfl⟩|⟨J,rfl,rfl,h6⟩|⟨H,J,rfl,K,rfl⟩
  ·rw[show(bQ m !=0)=true by simpa using J];rfl
  ·rfl
  ·rfl
  ·obtain⟨mp,ok,M,N⟩:=De m J;rw[show((0:Int) !=0)=false from rfl,yg,M,ya];rcases N with ⟨rfl,_,q⟩|⟨rfl,Y,O⟩
   ·exact(q H (lQ J K)).elim
   ·obtain rfl:=IC K ⟨Y,O⟩;rw[show iX 10000 ((mR m H,(H,0)),(m.recs,(m.funcs,(m.imps,(m.ints,m.texts)))))=_ from Wd J K];rfl
end Sx
end
section
namespace Sx
open Go Go.Ab
theorem Le(d:Nu)(hf:oO (.cons Lk .nil) d): ∃n,kT n d.1 d.2.1 d.2.2.1 d.2.2.2.1 d.2.2.2.2=some true:=by
 obtain⟨h1,_⟩:oO Lk d/\True:=hf;exact⟨10000,NI (Gw d) (kV (d:=d) h1).1 (kV (d:=d) h1).2⟩
theorem Lh(d:Nu)(hf:oO (.cons Lk .nil) d): ∃n,qV n d.1 d.2.1 d.2.2.1 d.2.2.2.1 d.2.2.2.2=some true:=by
 obtain⟨h1,_⟩:oO Lk d/\True:=hf;exact⟨10000,UU (Gw d) (kV (d:=d) h1).1 (kV (d:=d) h1).2⟩
theorem Hg(d:Nu)(hf:oO (.cons Lk .nil) d): ∃n,lZ n d.1 d.2.1 d.2.2.1 d.2.2.2.1 d.2.2.2.2=some true:=by
 obtain⟨h1,_⟩:oO Lk d/\True:=hf;exact⟨10000,Qt (Gw d) (kV (d:=d) h1).1 (kV (d:=d) h1).2⟩
end Sx
end
