/- Plain laws. -/
import Derived.Test.YtjjjbgicidhpfaaDoorLaw1
import Derived.Test.YtjjjbgicidhpfaaDoorLib34
set_option linter.unusedVariables false
set_option linter.unusedSimpArgs false
section
namespace Sx
open Go Go.Ab
theorem Qw:qai 10000=some true:=by kernel_rfl
abbrev kX:=Int×Int×Int×Int×Int×Int
noncomputable def NW(m:bM)(f:i7)(i:AM)(x:dJ):kX:=
 if x.1=true then(i.1,(i.2.1,(i.2.2,(((f.1.length+f.2.2.2.1.length+x.2.length:Nat):Int)-((gC m f i x.2).1.length:Int),(((gC m f i x.2).1.length:Int),((gC m f i x.2).2.1.length:Int))))))else(0,(0,(0,(0,(0,0)))))
noncomputable def RB(m:bM)(f:i7)(sh:List dJ):List kX:=List.zipWith (NW m f) f.2.2.2.2 sh
noncomputable def Q1(m:bM)(maps:List (List dJ)):List (List kX):=List.zipWith (RB m) m.funcs maps
theorem Ta{A B C:Type}{g:A->B->C}{a:List A}{b:List B}{k:Nat}{x:A}{y:B}(J:a[k]?=some x)(H:b[k]?=some y):(List.zipWith g a b)[k]?=some (g x y):=by
 rw[List.getElem?_zipWith,J,H]
structure S1 (m:bM) (fk:Nat) (f:i7) (sh:List dJ):Prop where
 hc:dA m=0
 hf:m.funcs[fk]?=some f
 len:sh.length=f.2.2.2.2.length
 l64:f.2.2.2.2.length≤64
 loc:f.1.length+f.2.2.2.1.length≤200
 inv:KG f.2.2.2.2.length sh
 ok: ∀pc,pc<f.2.2.2.2.length->KM m f sh pc=true
theorem TQ{m:bM}(hm:o6 m=true){J:List (List dJ)}(h:Cg m J){k:Nat}{f:i7}(hf:m.funcs[k]?=some f): ∃sh,J[k]?=some sh/\S1 m k f sh:=by
 obtain⟨sh,O,N,_⟩:=h.2 k f hf;have hc:=AR hm;have M:=(iT (eM hc).1).2.2.2.1 f (yk hf);have H:=(eM hc).1;simp only[fI,yc,decide_eq_true_eq,yf1]at H;have K:=H.2.2.2.2.1 f (yk hf);simp only[BG,yc,decide_eq_true_eq]at K;exact⟨sh,O,hc,hf,N.1.len,K.2.2.2.2.1,by have:=M.2;omega,N.1,N.2⟩
theorem S1.seen{m:bM}{N:Nat}{f:i7}{sh:List dJ}(h:S1 m N f sh){pc:Nat}{x:dJ}{i:AM}(Z:sh[pc]?=some x)(H:f.2.2.2.2[pc]?=some i):
  x.2.length≤8/\aI 10000 m.recs m.funcs m.imps m.ints m.texts f.1 f.2.1 f.2.2.1 f.2.2.2.1 f.2.2.2.2 i.1 i.2.1 i.2.2 x.2=some (gC m f i x.2)/\
  qat 10000 m.recs m.funcs m.imps m.ints m.texts (N:Int) (pc:Int) x.2=some (((gC m f i x.2).1.length:Int),((gC m f i x.2).2.1.length:Int))/\
  (gC m f i x.2).1.length≤200/\(gC m f i x.2).2.1.length≤200/\
  (x.1 = true → (gC m f i x.2).1.length ≤ x.2.length ∧ x.2.length - (gC m f i x.2).1.length + (gC m f i x.2).2.1.length ≤ 8 ∧
   (cY m f i (pc : Int) x.2).1.length = x.2.length - (gC m f i x.2).1.length + (gC m f i x.2).2.1.length ∧ ∀ t ∈ (cY m f i (pc : Int) x.2).2.1, kV sh (cY m f i (pc : Int) x.2).1 t = true) := by
 have K:=(yd.1 H).1;obtain⟨o1,V⟩:=Hh Z H (h.ok pc K);obtain⟨_,_,O,_⟩:=oA m N pc f i x.2 h.hc h.hf H (by omega);have W:=((iT (eM h.hc).1).2.2.2.1 f (yk h.hf)).1 i (yk H);obtain⟨r,hr,l1,U⟩:=Jf 10000 m f i x.2 h.hc (yk h.hf) (yk H) (by omega);have J:gC m f i x.2=r:=by unfold gC;rw[hr];rfl
 refine⟨o1,O,?_,by rw[J];exact l1,by rw[J];exact U,λh1=>?_⟩
 ·unfold qat
  rw[aP,h.hf,yb,yb,aP,H,yb,O3 10000 m f i x.2 W (by have:=h.loc;omega) (by omega),O,yl,yb];rfl
 ·obtain⟨p1,p2⟩:=V h1;obtain⟨k1,k2,Y,k4,k5,M⟩:=Ht p1;have M:cY m f i (pc:Int) x.2=(x.2.take (x.2.length-(gC m f i x.2).1.length)++(gC m f i x.2).2.1,E8 i (pc:Int),0):=M;refine⟨k2,Y,?_,p2⟩;rw[M,yi,yn2];have:min (x.2.length-(gC m f i x.2).1.length) x.2.length=x.2.length-(gC m f i x.2).1.length:=by omega
  rw[this]
theorem UN{a b c d:Nat}(ha:a+b≤200)(hc:c≤8)(hd:d≤200):bO .i64 (aX .i64 (aX .i64 (a:Int) (b:Int)) (c:Int)) (d:Int)=((a+b+c:Nat):Int)-(d:Int):=by
 rw[cL (a:=(a:Int)) (b:=(b:Int)) (by omega) (by omega),cL (by omega) (by omega),cT (by omega) (by omega)];omega
theorem Bs{A B C:Type}{g:A->B->C}{z:C}{a:List A}{b:List B}{j:Nat}{x:A}{y:B}(hl:a.length=b.length)(J:a[j]?=some x)(M:b[j]?=some y)(v:C)(K:v=g x y):
  (List.zipWith g (a.take j) (b.take j)++List.replicate (a.length-j) z).set j v=List.zipWith g (a.take (j+1)) (b.take (j+1))++List.replicate (a.length-(j+1)) z:=by
 have hj:=(yd.1 J).1;have H:(List.zipWith g (a.take j) (b.take j)).length=j:=by simp;omega
 rw[ys3 j _ (by omega),H,yd4,show a.length-j=(a.length-(j+1))+1 by omega,yy3,List.set_cons_zero,
  yp3 (i:=j),yp3 (i:=j),J,M,List.zipWith_append (by simp;omega),K]
 simp
theorem RL{m:bM}{M:Nat}{f:i7}{sh:List dJ}(h:S1 m M f sh)(H:List (List dJ))(hm:H[M]?=some sh)(fs:List i7)(K:Int)(N:List (List kX)):
  Kt 10000 ((H,((M:Int),(fs,(K,((M:Int),(f.2.2.2.2,(aC f.2.2.2.2,0))))))),(fC m,(N,(f,List.replicate f.2.2.2.2.length (0,(0,(0,(0,(0,0)))))))))=some ((H,(fs,(K,(M:Int)))),(fC m,(N,(f,RB m f sh)))):=by
 refine qZ (f:=λj:Nat=>((H,((M:Int),(fs,(K,((M:Int),(f.2.2.2.2,(aC f.2.2.2.2,(j:Int)))))))),(fC m,(N,(f,List.zipWith (NW m f) (f.2.2.2.2.take j) (sh.take j)++List.replicate (f.2.2.2.2.length-j) ((0,(0,(0,(0,(0,0))))):kX))))))
  (k:=f.2.2.2.2.length) (λj U=>?_) ?_ f.2.2.2.2.length 0 10000 (by omega) (by have:=h.l64;omega)
 ·obtain⟨i,hi⟩: ∃i,f.2.2.2.2[j]?=some i:=⟨_,yf U⟩
  obtain⟨x,hx⟩: ∃x,sh[j]?=some x:=⟨_,yf (by rw[h.len];exact U)⟩
  obtain⟨Z,e3,Y,l1,l2,_⟩:=h.seen hx hi;show Bd 10000 H (M:Int) fs K (M:Int) f.2.2.2.2 (aC f.2.2.2.2) (j:Int) m.recs m.funcs m.imps m.ints m.texts N f.1 f.2.1 f.2.2.1 f.2.2.2.1 f.2.2.2.2 _=_;have d:decide ((j:Int)<aC f.2.2.2.2)=true:=decide_eq_true (by rw[aD];omega);have O:=h.l64;unfold Bd;simp only[d,yg,aP,hi,hx,hm,yb,Y,qbk];rw[cL (a:=(j:Int)) (by omega) (by omega)];cases V:x.1 with
  |false=>
   rw[yc3,yg];have W:=Bs (g:=NW m f) (z:=((0,(0,(0,(0,(0,0))))):kX)) h.len.symm hi hx (0,(0,(0,(0,(0,0))))) (by unfold NW;rw[V];rfl);rw[<-W,yM]
   ·rfl
   ·have J:(List.zipWith (NW m f) (f.2.2.2.2.take j) (sh.take j)).length=j:=by simp[h.len];omega
    rw[yx (by omega),J,yd4,yu1,if_pos (by omega)]
  |true=>
   rw[yf2,yh];have J:(List.zipWith (NW m f) (f.2.2.2.2.take j) (sh.take j)++List.replicate (f.2.2.2.2.length-j) ((0,(0,(0,(0,(0,0))))):kX)).length=f.2.2.2.2.length:=by simp[h.len];omega
   rw[J,decide_eq_true (by omega),decide_eq_true (by omega),yi1,yg,yy,yr1 (by omega),yg,aD f.1,aD f.2.2.2.1,aD x.2,UN h.loc Z l1,
    Bs h.len.symm hi hx _ (by unfold NW;rw[if_pos V])]
   rfl
 ·show Bd 10000 H (M:Int) fs K (M:Int) f.2.2.2.2 (aC f.2.2.2.2) (f.2.2.2.2.length:Int) m.recs m.funcs m.imps m.ints m.texts N f.1 f.2.1 f.2.2.1 f.2.2.2.1 f.2.2.2.2 _=_;unfold Bd;rw[aD,decide_eq_false (by omega),yh,yd4,List.replicate_zero,yo1,yq3,yh2 (by rw[h.len];exact ya1 _)];rfl
theorem Ti{m:bM}(hm:o6 m=true){H:List (List dJ)}(h:Cg m H):Rf 10000 m.recs m.funcs m.imps m.ints m.texts H=some (Q1 m H):=by
 have h8:=(Dt hm h).1;have hl:=h.1;have hW:FQ 10000 ((H,(m.funcs,(aC m.funcs,0))),(fC m,([]:List (List kX))))=some (fC m,Q1 m H):=by
  refine qZ (f:=λj:Nat=>((H,(m.funcs,(aC m.funcs,(j:Int)))),(fC m,List.zipWith (RB m) (m.funcs.take j) (H.take j)))) (k:=m.funcs.length) (λj V=>?_) ?_ m.funcs.length 0 10000 (by omega) (by omega)
  ·obtain⟨f,hf⟩: ∃f,m.funcs[j]?=some f:=⟨_,yf V⟩
   obtain⟨sh,J,M⟩:=TQ hm h hf;show B4 10000 H m.funcs (aC m.funcs) (j:Int) m.recs m.funcs m.imps m.ints m.texts _=_;have d:decide ((j:Int)<aC m.funcs)=true:=decide_eq_true (by rw[aD];omega);have O:decide ((0:Int)≤aC f.2.2.2.2)=true:=decide_eq_true (by rw[aD];omega);have U:Nat.ble (Int.toNat (aC f.2.2.2.2)) 4294967296=true:=yr1 (by rw[aD,yy];have:=M.l64;omega);unfold B4;simp only[d,O,U,yg,aP,hf,yb,beq_self_eq_true,yi1];rw[show Int.toNat (aC f.2.2.2.2)=f.2.2.2.2.length by rw[aD,yy],RL M H J m.funcs (aC m.funcs),yb];have K: ∀(L:List (List kX)) (v w:List kX),List.set (L++ [v]) L.length w=L++ [w]:=λL v w=>by rw[ys3 _ _ (ya1 _),yd4];rfl
   have N: ∀(L:List (List kX)) (v:List kX),(L++ [v])[L.length]?=some v:=λL v=>by simp
   show(bif Nat.ble (List.length (List.zipWith (RB m) (m.funcs.take j) (H.take j)++ [[]])) 4294967296 then((List.zipWith (RB m) (m.funcs.take j) (H.take j)++ [[]])[(List.zipWith (RB m) (m.funcs.take j) (H.take j)).length]?).bind λ_=>
    some (Sum.inl ((H,(m.funcs,(aC m.funcs,aX .i64 (j:Int) 1))),(fC m,List.set (List.zipWith (RB m) (m.funcs.take j) (H.take j)++ [[]]) (List.zipWith (RB m) (m.funcs.take j) (H.take j)).length (RB m f sh))))else none)=_
   rw[yr1 (by simp;omega),yg,N,yb,K,cL (by omega) (by omega),yp3 (i:=j),yp3 (i:=j),hf,J,List.zipWith_append (by simp;omega)];rfl
  ·show B4 10000 H m.funcs (aC m.funcs) (m.funcs.length:Int) m.recs m.funcs m.imps m.ints m.texts _=_;unfold B4;rw[aD,decide_eq_false (by omega),yh,yq3,yh2 (by omega)];rfl
 unfold Rf;rw[show FQ 10000 ((H,(m.funcs,(aC m.funcs,0))),((m.recs,(m.funcs,(m.imps,(m.ints,m.texts)))),([]:List (List kX))))=_ from hW];rfl
theorem Oh(m:bM)(V:Rj m): ∃l e,qbg 10000 m.recs m.funcs m.imps m.ints m.texts=some (e,l)/\(e=0->l.length≤8/\∀x∈l,x.length≤64):=by
 unfold qbg;obtain⟨H,fi,pc,e,Y,h⟩:=QC m V;rw[Y,yb];rcases h with ⟨J,rfl,rfl,rfl,rfl⟩|⟨J,h2,rfl,rfl,rfl,rfl⟩|⟨J,rfl,rfl,_,h6⟩|⟨J,rfl,rfl,rfl,O⟩
 ·exact⟨[],dA m,by rw[show(dA m !=0)=true by simpa using J];rfl,λe=>absurd e J⟩
 ·exact⟨[],1,rfl,λe=>absurd e (by decide)⟩
 ·exact⟨[],4,rfl,λe=>absurd e (by decide)⟩
 ·refine⟨Q1 m H,0,?_,λ_=>?_⟩
  ·show(Rf 10000 m.recs m.funcs m.imps m.ints m.texts H).bind _=_
   rw[Ti J O];rfl
  ·have h8:=(Dt J O).1;refine⟨by unfold Q1;simp;omega,λx W=>?_⟩;obtain⟨k,U⟩:=List.mem_iff_getElem?.1 W;have N:k<m.funcs.length:=by have:=(yd.1 U).1;unfold Q1 at this;simp at this;omega
   obtain⟨f,hf⟩: ∃f,m.funcs[k]?=some f:=⟨_,yf N⟩
   obtain⟨sh,M,K⟩:=TQ J O hf;have:(Q1 m H)[k]?=some (RB m f sh):=Ta hf M;rw[U]at this;obtain rfl:=ya this;have:=K.l64;unfold RB;simp[K.len];omega
theorem O2(m:bM)(k:Nat)(M:List (List kX)): ∀(d j n:Nat) (H:List (List kX)) (x:List kX),H[k]?=some x->j+d=x.length->x.length≤4294967296->d<n->
  ∃J x',aY (λs=>eX 10000 s.1.1 s.1.2 s.2.1.1 s.2.1.2.1 s.2.1.2.2.1 s.2.1.2.2.2.1 s.2.1.2.2.2.2 s.2.2.1 s.2.2.2) n (((k:Int),(j:Int)),(fC m,(H,M)))=some ((k:Int),(fC m,((J,k),(M,x'))))/\J.length=H.length/\(∀i,i≠k->J[i]?=H[i]?)
 |0,j,n+1,H,x,N,hj,W,_=>by
  have O:=(yd.1 N).1;refine⟨H,x,b4 ?_,rfl,λi _=>rfl⟩;show eX 10000 (k:Int) (j:Int) m.recs m.funcs m.imps m.ints m.texts H M=_;unfold eX;rw[decide_eq_true (by omega),decide_eq_true (by omega),yi1,yg,yy,N,yb,aD,decide_eq_false (by omega),yh]
 |d+1,j,n+1,H,x,N,hj,W,hn=>by
  have O:=(yd.1 N).1;have U:j<x.length:=by omega
  have hx:x[j]?=some x[j]:=yf U;have K:eX 10000 (k:Int) (j:Int) m.recs m.funcs m.imps m.ints m.texts H M=some (Sum.inl (((k:Int),((j+1:Nat):Int)),(fC m,(H.set k (x.set j (x[j].1,(x[j].2.1,(x[j].2.2.1,((aX .i64 x[j].2.2.2.1 1),x[j].2.2.2.2))))),M)))):=by
   have d1:decide ((0:Int)≤(k:Int))=true:=decide_eq_true (by omega);have d2:decide ((k:Int)<((H.length:Nat):Int))=true:=decide_eq_true (by omega);have d3:decide ((0:Int)≤(j:Int))=true:=decide_eq_true (by omega);have d4:decide ((j:Int)<((x.length:Nat):Int))=true:=decide_eq_true (by omega);have d5:decide ((j:Int)<aC x)=true:=decide_eq_true (by rw[aD];omega);unfold eX;simp only[d1,d2,d3,d4,d5,yi1,yg,yy,N,hx,yb,yg3 k];rw[cL (a:=(j:Int)) (by omega) (by omega)];rfl
  obtain⟨J,x',Y,Z,h3⟩:=O2 m k M d (j+1) n (H.set k (x.set j (x[j].1,(x[j].2.1,(x[j].2.2.1,((aX .i64 x[j].2.2.2.1 1),x[j].2.2.2.2)))))) _ (yt O) (by rw[yt2];omega) (by rw[yt2];exact W) (by omega);exact⟨J,x',(b8 K).trans Y,by rw[Z,yt2],λi V=>by rw[h3 i V,yo (λe=>V e.symm)]⟩
theorem Tv(m:bM)(l:List (List kX))(h8:l.length≤8)(hs: ∀x∈l,x.length≤64): ∃H,jH 10000 (0,(fC m,(l,([]:List (List kX)))))=some (fC m,(H,l)):=by
 have key: ∀(d i n:Nat) (H:List (List kX)),i+d=l.length->H.length=l.length->(∀j,i≤j->H[j]?=l[j]?)->d<n->
   ∃J,aY (λs=>eY 10000 s.1 s.2.1.1 s.2.1.2.1 s.2.1.2.2.1 s.2.1.2.2.2.1 s.2.1.2.2.2.2 s.2.2.1 s.2.2.2) n ((i:Int),(fC m,(H,l.take i)))=some (fC m,(J,l)):=by
  intro d
  induction d with
  |zero=>
   intro i n H hi hl hm hn;obtain⟨n,rfl⟩: ∃Z,n=Z+1:=⟨n-1,by omega⟩
   refine⟨H,b4 ?_⟩;show eY 10000 (i:Int) m.recs m.funcs m.imps m.ints m.texts H (l.take i)=_;unfold eY;rw[aD,decide_eq_false (by omega),yh,yh2 (by omega)]
  |succ d ih=>
   intro i n H hi hl hm hn;obtain⟨n,rfl⟩: ∃Z,n=Z+1:=⟨n-1,by omega⟩
   have N:i<l.length:=by omega
   have hx:l[i]?=some l[i]:=yf N;have K:H[i]?=some l[i]:=(hm i (ya1 _)).trans hx;have hxl:=hs _ (yk2 N);have V: ∀(L:List (List kX)) (v w:List kX),List.set (L++ [v]) L.length w=L++ [w]:=λL v w=>by rw[ys3 _ _ (ya1 _),yd4];rfl
   have W: ∀(L:List (List kX)) (v:List kX),(L++ [v])[L.length]?=some v:=λL v=>by simp
   obtain⟨J,x',h1,h2,h3⟩:=O2 m i (l.take i++ [l[i]]) l[i].length 0 10000 H l[i] K (by omega) (by omega) (by omega);have Y:jJ 10000 (((i:Int),0),(fC m,(H,l.take i++ [l[i]])))=_:=h1;have O:i<J.length:=by omega
   have M:eY 10000 (i:Int) m.recs m.funcs m.imps m.ints m.texts H (l.take i)=some (Sum.inl (((i+1:Nat):Int),(fC m,(J.set i x',l.take (i+1))))):=by
    have d1:decide ((0:Int)≤(i:Int))=true:=decide_eq_true (by omega);have d2:decide ((i:Int)<((H.length:Nat):Int))=true:=decide_eq_true (by omega);have d3:decide ((i:Int)<aC H)=true:=decide_eq_true (by rw[aD];omega);have d4:Nat.ble l[i].length 4294967296=true:=yr1 (by omega);have d5:Nat.ble (l.take i++ [([]:List kX)]).length 4294967296=true:=yr1 (by simp;omega);unfold eY;simp only[d1,d2,d3,d4,d5,yi1,yg,yy,K,yb,W,V,yM K];rw[show jJ 10000 (((i:Int),0),((m.recs,(m.funcs,(m.imps,(m.ints,m.texts)))),(H,l.take i++ [l[i]])))=_ from Y,yb]
    show((J)[i]?).bind (λ_=>some (Sum.inl (aX .i64 (i:Int) 1,(fC m,(J.set i x',l.take i++ [l[i]])))))=_
    rw[yf O,yb,cL (by omega) (by omega),yp3 (i:=i),hx];rfl
   obtain⟨U,h4⟩:=ih (i+1) n (J.set i x') (by omega) (by rw[yt2];omega) (λj hj=>by rw[yo (by omega),h3 j (by omega)];exact hm j (by omega)) (by omega);exact⟨U,(b8 M).trans h4⟩
 obtain⟨H,h⟩:=key l.length 0 10000 l (by omega) rfl (λ_ _=>rfl) (by omega);exact⟨H,h⟩
theorem Ry(l:List (List kX))(k:Nat)(x:List kX)(H:l[k]?=some x)(hx:x.length≤64):mV 10000 (((k:Int),0),(l,l))=some (Sum.inr ((k:Int),(l,((l,k),x)))):=by
 have V:=(yd.1 H).1;have K:decide ((0:Int)≤(k:Int))=true:=decide_eq_true (by omega);have M:decide ((k:Int)<((l.length:Nat):Int))=true:=decide_eq_true (by omega);refine qZ (f:=λj:Nat=>(((k:Int),(j:Int)),(l,l))) (k:=x.length) (λj W=>?_) ?_ x.length 0 10000 (by omega) (by omega)
 ·have J:x[j]?=some x[j]:=yf W;have U:decide ((0:Int)≤(j:Int))=true:=decide_eq_true (by omega);have N:decide ((j:Int)<((x.length:Nat):Int))=true:=decide_eq_true (by omega);have O:decide ((j:Int)<aC x)=true:=decide_eq_true (by rw[aD];omega);show gE 10000 (k:Int) (j:Int) l l=_;unfold gE;simp only[K,M,U,N,O,yi1,yg,yy,H,J,yb,yg3 k,yM H,beq_self_eq_true,yf2,yh];rw[cL (a:=(j:Int)) (by omega) (by omega)];rfl
 ·show gE 10000 (k:Int) (x.length:Int) l l=_;unfold gE;rw[K,M,yi1,yg,yy,H,yb,aD,decide_eq_false (by omega),yh]
theorem Ri(l:List (List kX))(h8:l.length≤8)(hs: ∀x∈l,x.length≤64):mZ 10000 (0,(l,l))=some (Sum.inr (Sum.inr (l,l))):=by
 refine qZ (f:=λi:Nat=>((i:Int),(l,l))) (k:=l.length) (λi J=>?_) ?_ l.length 0 10000 (by omega) (by omega)
 ·have H:l[i]?=some l[i]:=yf J;have M:decide ((0:Int)≤(i:Int))=true:=decide_eq_true (by omega);have N:decide ((i:Int)<((l.length:Nat):Int))=true:=decide_eq_true (by omega);have K:decide ((i:Int)<aC l)=true:=decide_eq_true (by rw[aD];omega);show gD 10000 (i:Int) l l=_;unfold gD;simp only[M,N,K,yi1,yg,yy,H,yb,yg3 i,yM H,Sk,decide_true,yf2,yh,Ry l i l[i] H (hs _ (yk2 J))];rw[cL (by omega) (by omega)];rfl
 ·show gD 10000 (l.length:Int) l l=_;unfold gD;rw[aD,decide_eq_false (by omega),yh]
theorem R4(m:bM)(N:Rj m)(M:UB m):nF 10000 m.recs m.funcs m.imps m.ints m.texts=some true:=by
 unfold nF;obtain⟨b,O,hL⟩:=Mw 10000 m M (by omega);rw[O,yb,Qw];cases b with
 |false=>rfl
 |true=>
  obtain⟨l,e,H,h⟩:=Oh m N;rw[yf2,yh,H,yb];by_cases K:e=0
  ·subst K;obtain⟨J,hs⟩:=h rfl;obtain⟨m1,hW⟩:=Tv m l J hs;rw[show((0:Int) !=0)=false from rfl,yh,show jH 10000 (0,((m.recs,(m.funcs,(m.imps,(m.ints,m.texts)))),(l,([]:List (List kX)))))=_ from hW,yb];simp only[H,yb,bne_self_eq_false,yh,Sk,decide_true,yf2,Ri l J hs]
  ·rw[show(e !=0)=true by simpa using K];rfl
end Sx
end
section
namespace Sx
open Go Go.Ab
abbrev VE:Ty:= .cons (.int .i64) (.int .i64)
abbrev VP:Ty:= .cons (.int .i64) (.cons (.int .i64) (.int .i64))
end Sx
end
section
namespace Sx
open Go Go.Ab
abbrev Kf:Ty:= .sl true VE
abbrev VF:Ty:= .cons Kf (.cons (.int .i64) (.cons (.int .i64) (.cons Kf (.sl true VP))))
abbrev Vz:Ty:= .cons Kf (.cons (.int .i64) (.int .i64))
def U4:Sh:= .agg (.cons (.sl true false Kf) (.cons (.sl true true VF) (.cons (.sl true true Vz) (.cons (.sl true false (.int .u64)) (.cons (.sl true false .str) .nil)))))
abbrev T5:=List (List cZ)×List i7×List Rx×List Int×List ByteArray
def Sm(d:T5):bM:=⟨d.1,d.2.1,d.2.2.1,d.2.2.2.1,d.2.2.2.2⟩
theorem Tg{t:cZ}(h:H7 VE t):U0 t:=⟨CC h.1,CC h.2⟩
theorem mL{l:List cZ}(h:H7 Kf l):Pz l/\l.length≤140737488351232:=⟨λt ht=>Tg (h.2 t ht),h.1⟩
theorem Pd{d:T5}(h:BN U4 d):Rj (Sm d)/\UB (Sm d):=by
 obtain⟨h1,h2,h3,h4,h5,_⟩:H7 (.sl false Kf) d.1/\H7 (.sl true VF) d.2.1/\H7 (.sl true Vz) d.2.2.1/\H7 (.sl false (.int .u64)) d.2.2.2.1/\H7 (.sl false .str) d.2.2.2.2/\True:=h;obtain⟨l1,V⟩:=h1;obtain⟨W,e2⟩:=h2;obtain⟨Y,e3⟩:=h3;obtain⟨Z,e4⟩:=h4;obtain⟨l5,e5⟩:=h5;have U: ∀f∈d.2.1,H7 Kf f.1/\H7 (.int .i64) f.2.1/\H7 (.int .i64) f.2.2.1/\H7 Kf f.2.2.2.1/\f.2.2.2.2.length≤reachBytes:=λf hf=>by
  obtain⟨a1,H,J,K,M⟩:=e2 f hf;exact⟨a1,H,J,K,M.1⟩
 have O: ∀f∈d.2.2.1,H7 Kf f.1/\H7 (.int .i64) f.2.1/\H7 (.int .i64) f.2.2:=e3;refine⟨⟨λl N=>(mL (V l N)).1,λf hf=>?_,λf hf=>?_,λv hv=>T7 (e4 v hv)⟩,⟨l1,W,Y,Z,l5,λl N=>(mL (V l N)).2,λf hf=>?_,λf hf=>?_,e5⟩⟩
 ·obtain⟨a1,H,J,K,M⟩:=U f hf;exact⟨(mL a1).1,⟨CC H,CC J⟩,(mL K).1⟩
 ·obtain⟨a1,H,J⟩:=O f hf;exact⟨(mL a1).1,⟨CC H,CC J⟩⟩
 ·obtain⟨a1,H,J,K,M⟩:=U f hf;exact⟨(mL a1).2,(mL K).2,M⟩
 ·exact(mL (O f hf).1).2
end Sx
end
section
namespace Sx
open Go Go.Ab
theorem Ih(d:T5)(hf:BN (.cons U4 .nil) d): ∃n,nF n d.1 d.2.1 d.2.2.1 d.2.2.2.1 d.2.2.2.2=some true:=by
 obtain⟨h1,_⟩:BN U4 d/\True:=hf;exact⟨10000,R4 (Sm d) (Pd (d:=d) h1).1 (Pd (d:=d) h1).2⟩
end Sx
end
