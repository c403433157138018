/- The evaluator. -/
import Derived.Test.YtjjjbgicidhpfaaDoorLib2
set_option linter.unusedVariables false
set_option linter.unusedSectionVars false
set_option linter.unusedSimpArgs false
section
namespace Go.Ab
variable [cF]
section
variable {P:Program}
variable {G:Gh} {w:World} {mem:aK} {o:Oper} {a:Act} {out:dI}
theorem Ld{c x y r:AV}{H N K:Value}(h:Jb c x y=some r)(hc:VR G w c H)(M:VR G w x N)(J:VR G w y K):
  ∃t,H= .bool t/\VR G w r (if t then N else K):=by
 unfold Jb at h;split at h
 ·rename_i t;obtain rfl:=hc.lit_inv;refine⟨t,rfl,?_⟩;split at h
  ·obtain rfl:=ya h;obtain rfl:=M.lit_inv;obtain rfl:=J.lit_inv;cases t<;>exact .lit _ rfl
  ·cases t with
   |true=>simp only[yg]at h;obtain rfl:=ya h;exact M
   |false=>simp only[yh]at h;obtain rfl:=ya h;exact J
 ·simp at h
theorem CW{x:Operand}(h:kI x=true):x= .const (.slice none 0 0):=by
 unfold kI at h;split at h
 ·rfl
 ·cases h
theorem Bp{t:TypeId}{p:PV}(h:rS P t=some p):(∃k,p= .ints k [])\/∃e,p= .sl e []/\1≤e:=by
 unfold rS at h;rw[bind_some]at h;obtain⟨et,_,h⟩:=h;split at h
 ·rename_i k _;exact .inl ⟨k,(ya h).symm⟩
 ·rw[bind_some]at h;obtain⟨e,_,h⟩:=h;rw[aA]at h;exact .inr ⟨e,(ya h.2).symm,cO.1 h.1⟩
theorem Ho{boxed vars:Bool}{ρ:Operand->Option AV}{rs:Nat}{t:TypeId}{x:Operand}(hM:aH G w mem)(M:kI x=true->mem[rs]?=some none)(W:Rw G w ρ a)
  (K:execOp a.eval o=pure (Next.value (a.eval x))) (h:x5 P boxed vars ρ t rs x=some out):qF P G w mem o a out:=by
 unfold x5 at h;cases hc:(kI x&&boxed&&!vars)with
 |true=>
  rw[hc]at h;simp only[yg]at h;simp only[yc]at hc;obtain rfl:=CW hc.1.1;rw[bind_some]at h;obtain⟨p,N,h⟩:=h;obtain⟨row,H,rfl⟩:=ye.1 h;have hm:=M rfl;have U:rs<mem.length:=by
   rcases yl2 rs mem.length with h|h
   ·exact h
   ·rw[yd1 h]at hm;cases hm
  have hr:1≤row.e/\row.len=0/\row.isCells=false:=by
   rcases Bp N with ⟨k,rfl⟩|⟨e,rfl,K⟩
   ·obtain rfl:=ya H;exact⟨ya1 _,rfl,rfl⟩
   ·obtain rfl:=ya H;exact⟨K,rfl,rfl⟩
  obtain⟨G',Y,hl,O⟩:=C8 (b:=rs) (g':=0) (row':=row) hM U (λg _=>hM.unset rs g (λy V=>by rw[hm]at V;cases V)) hr.1 hr.2.1 hr.2.2;refine lC.opW ⟨G',w,.value (a.eval (.const (.slice none 0 0))),_,by rw[K];simp,.inl rfl,?_,Y,Ev.refl G w,by simpa[dI.apply,aN]using O⟩;exact .mswNil rs 0 _ hl rfl hr.2.1
 |false=>
  rw[hc]at h;simp only[yh]at h;rw[bind_some]at h;obtain⟨v,Z,h⟩:=h;have J:=W _ _ Z;split at h
  ·cases boxed with
   |true=>simp only[yg]at h;obtain rfl:=ya h;exact qF.plain hM K rfl rfl J
   |false=>
    simp only[yh]at h;obtain⟨p,N,rfl⟩:=ye.1 h;refine qF.plain hM K rfl rfl ?_;rw[J.lit_inv];rcases Bp N with ⟨k,rfl⟩|⟨e,rfl,_⟩
    ·exact .imm _ _ _ (.intsNil k _) rfl
    ·exact .imm _ _ _ (.slNil e _) rfl
  ·obtain rfl:=ya h;exact qF.plain hM K rfl rfl J
theorem J0{ρ:Operand->Option AV}{t:TypeId}{x ix:Operand}(hM:aH G w mem)(hρ:Rw G w ρ a)
  (he:execOp a.eval o=(do pure (Next.value (<-Instr.index t (a.eval x) (a.eval ix))))) (h:rC P ρ t x ix=some out):qF P G w mem o a out:=by
 unfold rC at h;rw[bind_some]at h;obtain⟨vx,hx,h⟩:=h;rw[bind_some]at h;obtain⟨vi,H,h⟩:=h;have N:=hρ _ _ hx;have J:=hρ _ _ H;split at h
 ·rename_i cs k i;split at h
  ·rename_i n e V;rw[bind_some]at h;obtain⟨ag,hag,h⟩:=h;rw[bind_some]at h;obtain⟨s,hs,h⟩:=h;rw[aA]at h;obtain⟨hg,h⟩:=h;simp only[yc,yw,decide_eq_true_eq]at hg;obtain⟨⟨⟨M,Z⟩,Y⟩,hn⟩:=hg;obtain rfl:=bN.1 Z;obtain⟨v,hv,rfl⟩:=ye.1 h;obtain⟨cvs,W,O⟩:=N.agg_inv;have hel:=O.2 _ _ hv;refine qF.still hM he rfl rfl (cv:=cvs.getD i.toNat undef) ?_ hel;rw[W,J.lit_inv];have U:i.toNat<cvs.size:=by
    rw[<-O.1];exact(yd.1 hv).1
   have:=MV (P:=P) hag hs (cs:=cvs) (o:=i.toNat) w (.inr U);rw[M]at this;simp only[yr2,if_false]at this;simp only[Instr.index,asIntOf,Sem.run_bind,Sem.run_pure,Result.andThen_ok,run_underlying V,Y,hn,and_self,if_true,eR hs,yt3,this]
  ·cases h
 ·rename_i s k i;split at h
  ·rename_i V;obtain⟨b,K,rfl⟩:=ye.1 h;refine qF.still hM he rfl rfl (cv:= .int .u8 b) ?_ (.lit _ rfl);rw[N.lit_inv,J.lit_inv];obtain⟨Y,U,K⟩:=CF K;have hs:s[i.toNat]?.map (λc:UInt8=>(c.toNat:Int))=some b:=by
    unfold dZ at K;rw[yg1]at K;rw[<-K,yq1];by_cases H:i.toNat<s.size
    ·rw[getElem?_pos s _ H,getElem?_pos s.data _ H];rfl
    ·rw[getElem?_neg s _ H,getElem?_neg s.data _ H]
   obtain⟨c,hc,rfl⟩:=ye.1 hs;simp only[Instr.index,asIntOf,Sem.run_bind,Sem.run_pure,Result.andThen_ok,run_underlying V,Y,if_true,hc]
  ·cases h
 ·cases h
theorem PI{C:bX}{boxed raw vars:Bool}{ρ:Operand->Option AV}{rs:Nat}(hM:aH G w mem)(Z:eE o.op=true->mem[rs]?=some none)(N:Rw G w ρ a)
  (hcall: ∀{raw keep:Bool} {g:FuncId} {ts:List TypeId} {fi args ca:List AV} {out:dI} {fv av cv:Array Value},Aq P C raw keep g ts fi args ca mem=some out->pY G w fi fv->pY G w args av->pY G w ca cv->Nv P G w mem g (fv++av++cv) out)
  (h:OV P C boxed raw vars o ρ mem rs=some out):qF P G w mem o a out:=by
 unfold OV GP Ca L3 Bc f6 zL Ml Lu RJ G9 Cs y5 mJ BA zN qP Dh at h;split at h
 ·rename_i x H;exact Ho hM (λhn=>Z (by rw[H];exact hn)) N (by simp only[execOp,H]) h
 ·rename_i x H;exact Ho hM (λhn=>Z (by rw[H];exact hn)) N (by simp only[execOp,H]) h
 ·rename_i c x y H;rw[bind_some]at h;obtain⟨vc,hc,h⟩:=h;rw[bind_some]at h;obtain⟨vx,V,h⟩:=h;rw[bind_some]at h;obtain⟨vy,hy,h⟩:=h;obtain⟨r,hr,rfl⟩:=ye.1 h;obtain⟨t,ht,U⟩:=Ld hr (N _ _ hc) (N _ _ V) (N _ _ hy);refine lC.opW ⟨G,w,_,_,?_,.inl rfl,U,c5.refl G,Ev.refl G w,by simpa[dI.apply,aN]using hM⟩;simp only[execOp,H,ht,asBool];cases t<;>simp
 ·rename_i t H;rw[bind_some]at h;obtain⟨z,hz,h⟩:=h;rw[aA]at h;obtain⟨O,h⟩:=h;simp only[yc]at O;obtain rfl:=ya h;exact(NM hM H (Z (by rw[H];rfl)) hz (cO.1 O.1) O.2).opW
 ·rename_i t x H;rw[bind_some]at h;obtain⟨v,U,h⟩:=h;rw[bind_some]at h;obtain⟨n,hn,h⟩:=h;rw[aA]at h;obtain⟨O,h⟩:=h;simp only[yc]at O;obtain rfl:=ya h;exact(Sj hM H (Z (by rw[H];rfl)) (N _ _ U) (bN.1 O.1.1) (cO.1 O.1.2) O.2).opW
 ·rename_i t parts H;rw[bind_some]at h;obtain⟨ps,hps,h⟩:=h;obtain⟨v,U,rfl⟩:=ye.1 h;obtain⟨cv,M,J⟩:=Jn U (A2 N hps);exact qF.still hM (by simp only[execOp,H]<;>rfl) rfl rfl M J
 ·rename_i t len parts H;rw[bind_some]at h;obtain⟨et,het,h⟩:=h;rw[bind_some]at h;obtain⟨z,hz,h⟩:=h;rw[bind_some]at h;obtain⟨s,hs,h⟩:=h;rw[bind_some]at h;obtain⟨ps,hps,h⟩:=h;rw[aA]at h;obtain⟨O,h⟩:=h;rw[bind_some]at h;obtain⟨wv,hwv,h⟩:=h;rw[aA]at h;obtain⟨hwe,h⟩:=h;obtain⟨ov,hov,rfl⟩:=ye.1 h;exact qF.value (by simp only[execOp,H]<;>rfl) (Fr hM (Z (by rw[H];rfl)) het hz hs O hwv hwe hov (A2 N hps))
 ·rename_i t x H;rw[bind_some]at h;obtain⟨v,U,h⟩:=h;obtain⟨r,rd,rfl,cv,M,J⟩:=El hM h (N _ _ U);exact qF.still hM (by simp only[execOp,H]<;>rfl) rfl rfl M J
 ·rename_i t x y H;rw[bind_some]at h;obtain⟨vx,V,h⟩:=h;rw[bind_some]at h;obtain⟨vy,hy,h⟩:=h;obtain⟨hov,G',w',M,O,hev,hM'⟩:=J5 hM h (N _ _ V) (N _ _ hy);refine lC.opW ⟨G',w',.skip,undef,?_,.inr ⟨rfl,rfl⟩,by rw[hov];exact .lit _ rfl,O,hev,hM'⟩;simp only[execOp,H,Sem.run_bind,M,Result.andThen_ok,Sem.run_pure]
 ·rename_i x H;rw[bind_some]at h;obtain⟨v,U,h⟩:=h;have J:=N _ _ U;split at h
  ·obtain rfl:=ya h;refine qF.plain hM (cv:=a.eval x) ?_ rfl rfl J;simp only[execOp,H];generalize a.eval x=cv at J;cases J;simp only
  ·obtain rfl:=ya h;refine qF.plain hM (cv:=a.eval x) ?_ rfl rfl J;simp only[execOp,H];generalize a.eval x=cv at J;cases J;simp only
  ·obtain rfl:=ya h;refine qF.plain hM (cv:=a.eval x) ?_ rfl rfl J;simp only[execOp,H];generalize a.eval x=cv at J;cases J;simp only
  ·simp at h
 ·rename_i op t x y _ H;rw[bind_some]at h;obtain⟨vx,V,h⟩:=h;rw[bind_some]at h;obtain⟨vy,hy,h⟩:=h;obtain⟨r,hr,rfl⟩:=ye.1 h;obtain⟨cv,h1,h2,J⟩:=Sd (x:=x) (y:=y) hr (N _ _ V) (N _ _ hy);refine qF.still hM (s:=do eqGuard op t x y (a.eval x) (a.eval y);binOp op t (a.eval x) (a.eval y)) (by simp only[execOp,H]) rfl rfl ?_ J;simp only[Sem.run_bind,h1,Result.andThen_ok,h2]
 ·rename_i op _ x H;rw[bind_some]at h;obtain⟨vx,V,h⟩:=h;split at h
  ·obtain⟨r,hr,rfl⟩:=ye.1 h;have hvx:=(N _ _ V).lit_inv;exact qF.still hM (by simp only[execOp,H]<;>rfl) rfl rfl (by rw[hvx];exact Qi hr) (.lit _ (KJ hr))
  ·simp at h
 ·rename_i src dst x H;rw[bind_some]at h;obtain⟨vx,V,h⟩:=h;exact qF.value (by simp only[execOp,H]<;>rfl) (GL hM h (N _ _ V))
 ·rename_i fn first cap H
  rw[bind_some]at h;obtain⟨fi,hfi,h⟩:=h;obtain⟨ca,hca,rfl⟩:=ye.1 h;have h1:=BK N hfi;have h2:=BK N hca;exact qF.still hM (by simp only[execOp,H]<;>rfl) rfl rfl (cv:= .func fn (first.map a.eval) (cap.map a.eval)) (by simp[Instr.makeFunc]) (.fn fn fi ca _ _ h1.1 h2.1 h1.2 h2.2)
 ·rename_i t l c H;rw[bind_some]at h;obtain⟨et,het,h⟩:=h;rw[bind_some]at h;obtain⟨z,hz,h⟩:=h;rw[bind_some]at h;obtain⟨vl,hl,h⟩:=h;rw[bind_some]at h;obtain⟨vc,hc,h⟩:=h;split at h
  ·rename_i k1 n k2 n';rw[aA]at h;obtain⟨O,h⟩:=h;simp only[yc,beq_iff_eq,decide_eq_true_eq]at O;obtain⟨⟨hnn,hn0⟩,hml⟩:=O;subst hnn;have hml:=cO.1 hml;obtain⟨i,zv,hi,hzv,hov⟩:=lQ hz;have hzr:VR G w z zv:=mR hov;have el:=(N _ _ hl).lit_inv;have ec:=(N _ _ hc).lit_inv;obtain⟨m,rfl⟩: ∃m:Nat,n=(m:Int):=⟨n.toNat,by omega⟩
   rw[yy]at hml h;refine qF.value (s:=Instr.makeSlice t (.int k1 (m:Int)) (.int k2 (m:Int))) (by simp only[execOp,H,el,ec]) ?_;have hr:=Z (by rw[H];rfl);split at h
   ·rename_i k hk;rw[bind_some]at h;obtain⟨e,he,h⟩:=h;rw[bind_some]at h;obtain⟨bytes,W,h⟩:=h;rw[bind_some]at h;obtain⟨zs,hzs,h⟩:=h;rw[aA]at h;obtain⟨O,h⟩:=h;simp only[yc]at O;obtain rfl:=bN.1 O.1;have hb:=cO.1 O.2;obtain⟨U,hsz⟩:=NY (n:=m) hzs hzr;exact w5 hM hr (oR het) hi hzv (by unfold jR at he;rw[hi]at he;simpa using he) (ya1 _) (by unfold kT at W;rw[hi]at W;simp at W;omega) hml hsz U (by simp[aL.len]) rfl h
   ·rw[bind_some]at h;obtain⟨q,hq,h⟩:=h;rw[bind_some]at h;obtain⟨e,he,h⟩:=h;rw[bind_some]at h;obtain⟨bytes,W,h⟩:=h;rw[aA]at h;obtain⟨O,h⟩:=h;simp only[yc]at O;obtain⟨⟨⟨g1,g2⟩,g3⟩,g4⟩:=O;have g1:=cO.1 g1;have g2:=cO.1 g2;have g3:=bN.1 g3;have g4:=oT g4;obtain⟨U,hsz⟩:=Je (n:=m) hM hq hzr g3 g1 g4;exact w5 hM hr (oR het) hi hzv (by unfold jR at he;rw[hi]at he;simpa using he) g1 (by unfold kT at W;rw[hi]at W;simp at W;omega) hml hsz U (by simp[aL.len]) rfl h
  ·simp at h
 ·rename_i t x lo hi mx H;rw[bind_some]at h;obtain⟨vx,V,h⟩:=h;rw[bind_some]at h;obtain⟨vl,hl,h⟩:=h;rw[bind_some]at h;obtain⟨vh,hh,h⟩:=h;rw[bind_some]at h;obtain⟨vm,hm,h⟩:=h;obtain⟨h1,h2,cv,M,J⟩:=JS hM h (N _ _ V) (nW N hl) (nW N hh) (nW N hm);exact qF.still hM (by simp only[execOp,H]<;>rfl) h1 h2 M J
 ·rename_i s x f H;rw[bind_some]at h;obtain⟨vx,V,h⟩:=h;rw[bind_some]at h;obtain⟨q,hq,h⟩:=h;have J:=N _ _ V;split at h
  ·rename_i b g i c;obtain rfl:=ya h;generalize Y:a.eval x=cv at J;cases J with
   |ptr _ _ _ _ L B hl hb=>
    refine qF.still hM (by simp only[execOp,H]<;>rfl) rfl rfl (by rw[Y];exact E4 hq B _ w) ?_;rw[show∀p q r s:Nat,p+(q+r)+s=p+(q+(r+s))from λp q r s=>by omega];exact .ptr b g i (c+q.1) L B hl hb
  ·rename_i β p c;obtain rfl:=ya h;generalize Y:a.eval x=cv at J;cases J with
   |el _ _ _ B o cv hh hr=>
    refine qF.still hM (by simp only[execOp,H]<;>rfl) rfl rfl (by rw[Y];exact E4 hq B _ w) ?_;rw[ye2];exact .el β p (c+q.1) B o cv hh hr
  ·simp at h
 ·rename_i s x f H;rw[bind_some]at h;obtain⟨vx,V,h⟩:=h;rw[bind_some]at h;obtain⟨q,hq,h⟩:=h;split at h
  ·rename_i cs;rw[bind_some]at h;obtain⟨ag,hag,h⟩:=h;have key: ∃v,(bif ag then guardB (Nat.ble (q.1+q.2.1) cs.length) (some (AV.agg ((cs.drop q.1).take q.2.1)))else cs[q.1]?)=some v/\out={v}:=by
    cases ag with
    |true=>
     simp only[yg]at h⊢
     rw[aA]at h;obtain⟨O,h⟩:=h;exact⟨_,by rw[O];rfl,(ya h).symm⟩
    |false=>
     simp only[yh]at h⊢
     obtain⟨v,U,rfl⟩:=ye.1 h;exact⟨v,U,rfl⟩
   obtain⟨v,U,rfl⟩:=key;obtain⟨cv,M,J⟩:=JO hq hag (N _ _ V) U;exact qF.still hM (by simp only[execOp,H]<;>rfl) rfl rfl M J
  ·simp at h
 ·rename_i t x ix H;rw[bind_some]at h;obtain⟨vx,V,h⟩:=h;rw[bind_some]at h;obtain⟨vi,hi,h⟩:=h;split at h
  ·rename_i k i;have ei:=(N _ _ hi).lit_inv;obtain⟨v,rd,rfl,cv,M,J⟩:=JN (k:=k) hM h (N _ _ V);exact qF.still hM (by simp only[execOp,H]<;>rfl) rfl rfl (by rw[ei];exact M) J
  ·simp at h
 ·rename_i t x ix H;exact J0 hM N (by simp only[execOp,H]<;>rfl) h
 ·rename_i t ix H;rw[bind_some]at h;obtain⟨vt,ht,h⟩:=h;split at h
  ·rename_i vs;obtain⟨v,U,rfl⟩:=ye.1 h;have J:=N _ _ ht;generalize Y:a.eval t=cv at J;cases J with
   |tup _ cvs hlen hh=>
    have hix:ix<cvs.size:=by rw[<-hlen];exact(yd.1 U).1
    have:=hh ix v U;rw[yp,yb2 hix]at this;refine qF.still hM (by simp only[execOp,H]<;>rfl) rfl rfl (cv:=cvs[ix]) ?_ this;rw[Y];simp[Instr.extract,yb2 hix]
  ·simp at h
 ·rename_i c H;rw[bind_some]at h;obtain⟨args,hargs,h⟩:=h;have hav:=BK N hargs;split at h
  ·rename_i b hc;obtain⟨s,hs,hh⟩:=Gl (ty:=o.type) (consts:=c.args.map fun| .const _=>true|_=>false) hM (λhb=>Z (by rw[H];subst hb;unfold eE;obtain⟨cc,_,_⟩:=c;simp only at hc;subst hc;rfl)) h hav;refine qF.value (s:=s) ?_ hh;rw[<-hs];simp only[execOp,H,resolve,hc,invoke];rfl
  ·rename_i f hc;rw[bind_some]at h;obtain⟨fv,hf,h⟩:=h;split at h
   ·rename_i g fi ca;have J:=N _ _ hf;generalize Y:a.eval f=cv at J;cases J with
    |fn _ _ _ fvs cvs h1 h2 hff hcc=>
     obtain⟨hen,hcl⟩:=hcall h ⟨h1,hff⟩ hav ⟨h2,hcc⟩;intro K Q hK;unfold Oper.wp;have V:(execOp a.eval o).run P w= .ok (.enter g (fvs++c.args.map a.eval++cvs)) w:=by
      simp only[execOp,H,resolve,hc,Deferred.ofValue,Y,Sem.run_bind,Sem.run_pure,Result.andThen_ok,invoke];exact hen
     rw[V];refine Calls.mono hcl λe w' he=>?_;obtain⟨G',cv,rfl,U,O,hev,hM'⟩:=he;exact hK G' w' cv U O hev hM'
   ·simp at h
  ·simp at h
 ·simp at h
end
end Go.Ab
end
section
namespace Go.Ab
variable [cF]
theorem dV{i c:Nat}: ∀{hs:List (Nat×Nat×AV)},k8 c hs=none->aG i c hs=none
 | [],_=>rfl
 |(M,K,v)::r,h=>by
  simp only[k8]at h;cases H:Nat.beq c K with
  |true=>rw[H]at h;cases h
  |false=>
   rw[H]at h;simp only[yh]at h;have J: ¬(M=i/\K=c):=λN=>by rw[bN.2 N.2.symm]at H;cases H
   simp only[aG,if_neg J];exact dV h
theorem Af{i c:Nat}{v:AV}: ∀{hs:List (Nat×Nat×AV)},k8 c hs=some (i,v)->aG i c hs=some v
 | [],h=>by cases h
 |(M,K,u)::r,h=>by
  simp only[k8]at h;cases H:Nat.beq c K with
  |true=>
   rw[H]at h;simp only[yg,Option.some.injEq,Prod.mk.injEq]at h;obtain⟨rfl,rfl⟩:=h;simp[aG,bN.1 H]
  |false=>
   rw[H]at h;simp only[yh]at h;have J: ¬(M=i/\K=c):=λN=>by rw[bN.2 N.2.symm]at H;cases H
   simp only[aG,if_neg J];exact Af h
theorem Nm{y:PV}{row:aZ}(h:cW y=some row):1≤row.e/\row.isCells=false/\row.isOwn=false:=by
 cases y with
 |ints k H=>obtain rfl:=ya h;exact⟨ya1 _,rfl,rfl⟩
 |sl e H=>simp only[cW]at h;rw[aA]at h;obtain⟨J,h⟩:=h;obtain rfl:=ya h;exact⟨cO.1 J,rfl,rfl⟩
 |lit u=>cases h
 |agg cs=>cases h
theorem GQ.row{G:Gh}{w:World}{B a:Nat}{r:aZ}(h:GQ G w B a r):iD G w B a r:=by
 cases r with
 |ints k xs=>exact h
 |pvs β e xs=>exact h
 |cells e cs=>cases h
 |own e xs hs=>cases h
theorem LH{G:Gh}{w:World}{B a:Nat}{e:Nat}{xs:List PV}{hs:List (Nat×Nat×AV)}(h:iD G w B a (.own e xs hs)){i c:Nat}{p y:PV}(J:xs[i]?=some p)(H:p.cells[c]?=some y):
  ∃v,cl w B (i*e+c)=some v/\v.oneCell'=true/\HR G w (aG i c hs) y v:=h.2.2 i p c y J H
theorem F9{m n:aK}{b:Nat}{x:bK}(h:(m++n)[b]?=some (some x)):(b<m.length/\m[b]?=some (some x))\/(m.length≤b/\n[b-m.length]?=some (some x)):=by
 by_cases H:b<m.length
 ·rw[yq H]at h;exact .inl ⟨H,h⟩
 ·rw[yx (by omega)]at h;exact .inr ⟨by omega,h⟩
def Uu:Value->Option Nat
 | .slice (some a) _ _=>some a.block
 |_=>none
def Ul:Value->Nat
 | .slice (some a) _ _=>a.off
 |_=>0
def Ra(v:Value)(row:aZ):Ff:=⟨Uu v,row.e,row.len,Ul v⟩
theorem NK{G:Gh}{w:World}{mem:aK}{b:Nat}{bx:bK}{B e i c:Nat}{xs:List PV}{hs:List (Nat×Nat×AV)}{p y:PV}{row:aZ}(hM:aH G w mem)(hx:mem[b]?=some (some bx))(hrow:bx.row= .own e xs hs)(hB:eT G b bx B)
  (hp:xs[i]?=some p) (hy:p.cells[c]?=some y) (hh:aG i c hs=none) (hl:cW y=some row):
  ∃G' v,G'=G.put mem.length 0 (Ra v row)/\cl w B (i*e+c)=some v/\c5 G G'/\VR G' w (.msw mem.length 0) v/\
   aH G' w (mem.set b (some {bx with row:= .own e xs ((i,c,.msw mem.length 0)::hs)})++ [some {gen:=0,frz:=false,row}]):=by
 obtain⟨ax,hl1,hax,hmi,hlt,hfr,hr,hpr⟩:=hM.blk hx hB;rw[hrow]at hr hl1 hax;obtain⟨v,hv,hv1,hor⟩:=LH hr hp hy;rw[hh]at hor;obtain⟨g1,g2,g3⟩:=Nm hl;have hnb: ∀g,G.loc mem.length g=none:=λg=>hM.unset _ g (λx hx=>by rw[yd1 (ya1 _)]at hx;cases hx);have W:b<mem.length:=(yd.1 hx).1;obtain⟨L,hL⟩: ∃L,Ra v row=L:=⟨_,rfl⟩
 have hg:c5 G (G.put mem.length 0 L):=c5.put (.inl (hnb 0));have hev:=Ev.refl G w
 -- what the header says
 have key:VR (G.put mem.length 0 L) w (.msw mem.length 0) v/\L.e=row.e/\L.n=row.len/\(row.isInts=false->L.off=0)/\(L.blk=none->row.len=0)/\
   (∀B',L.blk=some B'->cN w B bx.row i c B'/\G.mine B'/\B'<w.heap.size/\gW w B'/\GQ G w B' L.off row/\∀β o,¬G.prot β B' o):=by
  rcases hor with ⟨u,rfl,_⟩|⟨row',hrow',hor⟩
  ·cases hl
  ·rw[hl]at hrow';obtain rfl:=ya hrow';rcases hor with ⟨rfl,h0⟩|⟨B',a',cap,rfl,ka,k1,k2,k3,k4,k5,k6,k7⟩
   ·subst hL;exact⟨.mswNil _ _ _ (Gh.put_self ..) rfl h0,rfl,rfl,λ_=>rfl,λ_=>h0,λB' h=>(nomatch h)⟩
   ·subst hL;refine⟨.msw _ _ cap _ B' (Gh.put_self ..) rfl k1 k2,rfl,rfl,ka,λh=>(nomatch h),λB2 h=>?_⟩;obtain rfl:B'=B2:=ya h;refine⟨?_,k3,k4,k5,k6,k7⟩;rw[hrow];exact⟨⟨p,y,row,hp,hy,hl⟩,hh,a',row.len,cap,hv⟩
 obtain⟨hvr,hLe,hLn,hLo,hLz,hLB⟩:=key
 -- the new memory
 have O: ∀{H:Nat} {z:bK},(mem.set b (some {bx with row:= .own e xs ((i,c,.msw mem.length 0)::hs)})++ [some {gen:=0,frz:=false,row}])[H]?=some (some z)->
   (H=b/\z={bx with row:= .own e xs ((i,c,.msw mem.length 0)::hs)})\/(H≠b/\H<mem.length/\mem[H]?=some (some z))\/(H=mem.length/\z={gen:=0,frz:=false,row}):=by
  intro H z h;rcases F9 h with ⟨Z,K⟩|⟨Z,K⟩
  ·rw[yt2]at Z;by_cases e:H=b
   ·subst e;rw[yt W]at K;exact .inl ⟨rfl,by simpa using K.symm⟩
   ·rw[yo (λx=>e x.symm)]at K;exact .inr (.inl ⟨e,Z,K⟩)
  ·rw[yt2]at Z K;have h0:H-mem.length=0:=by
    have:=(yd.1 K).1;simp at this;omega
   rw[h0]at K;exact .inr (.inr ⟨by omega,by simpa using K.symm⟩)
 have U: ∀{H g:Nat},H<mem.length->(G.put mem.length 0 L).loc H g=G.loc H g:=λh=>Gh.put_ne _ _ (λx=>by omega);have J: ∀{H:Nat} {z z':bK} {C:Nat},H<mem.length->z.gen=z'.gen->eT (G.put mem.length 0 L) H z C->eT G H z' C:=by
  rintro H z z' C Z K ⟨L',l',k'⟩
  rw[U Z,K]at l';exact⟨L',l',k'⟩
 have N: ∀{z:bK} {C:Nat},z.gen=0->eT (G.put mem.length 0 L) mem.length z C->L.blk=some C:=by
  rintro z C h0 ⟨L',l',k'⟩
  rw[h0,Gh.put_self]at l';obtain rfl:=ya l';exact k'
 have hinn: ∀{V Y B' C:Nat},cN w C (aZ.own e xs ((i,c,.msw mem.length 0)::hs)) V Y B'->cN w C bx.row V Y B'/\¬(V=i/\Y=c):=by
  rintro V Y B' C ⟨Z,K,h3⟩
  simp only[aG]at K;split at K
  ·cases K
  ·rename_i hn;rw[hrow];exact⟨⟨Z,K,h3⟩,λhh=>hn ⟨hh.1.symm,hh.2.symm⟩⟩
 have hrowmono: ∀{C a:Nat} {r:aZ} {H:Nat} {z:bK},mem[H]?=some (some z)->z.row=r->eT G H z C->iD G w C a r->iD (G.put mem.length 0 L) w C a r:=by
  intro C a r H z hz hzr hC h;exact h.mono hg hev (λ_ _=>rfl) λi c B' hi=>⟨.of rfl,(hM.inn hz hC (by rw[hzr];exact hi)).2.2.2⟩
 refine⟨_,v,by rw[hL],hv,hg,hvr,⟨λH z h=>?_,λH g h=>?_,λH z g h hlt'=>?_,λb1 b2 z1 z2 L1 L2 C Z K l1 l2 k1 k2=>?_,λb1 b2 z1 z2 C V Y B' Z k1 hi K k2=>?_,λb1 b2 z1 z2 C D V Y i2 c2 B' Z k1 hi K k2 hi2=>?_,hM.own,hM.lab,hM.away,hM.glob.mono (hg.prot true) (hev.prot true)⟩⟩
 ·rcases O h with ⟨rfl,rfl⟩|⟨hn,hl',hz⟩|⟨rfl,rfl⟩
  ·have hb:=hM.box _ _ hx;refine⟨by have:=hb.e;rw[hrow]at this;exact this,some B,ax,by rw[U W];exact hl1,hax,hmi,hlt,hfr,?_,hpr⟩;refine⟨λh hh=>?_,hr.2.1,λV x' Y y' Z K=>?_⟩
   ·rcases yj1.1 hh with rfl|hh
    ·exact(yd.1 hp).1
    ·exact hr.1 h hh
   ·obtain⟨v',hv',hv1',hp'⟩:=hr.2.2 V x' Y y' Z K;refine⟨v',hv',hv1',?_⟩;by_cases hcc:i=V/\c=Y
    ·obtain⟨rfl,rfl⟩:=hcc;rw[hv]at hv';obtain rfl:=ya hv';simp only[aG,and_self,if_true,HR];exact hvr
    ·simp only[aG,if_neg hcc];cases ho:aG V Y hs with
     |some a=>rw[ho]at hp';exact VR.mono hg hev hp'
     |none=>
      rw[ho]at hp';refine OR.mono hg hev hp' λB' a' n cap hrow2 hvv=>⟨.of rfl,?_⟩
      obtain⟨row2,hrow2⟩:=hrow2;exact(hM.inn hx hB (i:=V) (c:=Y) (by rw[hrow];exact⟨⟨x',y',row2,Z,K,hrow2⟩,ho,a',n,cap,by rw[hv',hvv]⟩)).2.2.2
  ·have hb:=hM.box H z hz;obtain⟨o,a0,hlo,ha0,hm⟩:=hb.loc;refine⟨hb.e,o,a0,by rw[U hl'];exact hlo,ha0,?_⟩;cases o with
   |none=>exact hm
   |some C=>
    obtain⟨m1,m2,m3,m4,m5⟩:=hm;exact⟨m1,m2,m3,hrowmono hz rfl ⟨_,hlo,rfl⟩ m4,m5⟩
  ·refine⟨g1,L.blk,L.off,by rw[Gh.put_self,<-hLe,<-hLn],hLo,?_⟩;cases hLb:L.blk with
   |none=>exact⟨hLz hLb,g2⟩
   |some B'=>
    obtain⟨_,m1,m2,m3,m4,m5⟩:=hLB B' hLb;exact⟨m1,m2,m3,(m4.mono hg hev (λ_ _=>rfl)).row,λ_=>m5⟩
 ·have hn:H≠mem.length:=by
   rintro rfl
   exact h {gen:=0,frz:=false,row} (by rw[yx (by simp)];simp)
  rw[Gh.put_ne _ _ (λx=>hn x.1)];refine hM.unset H g λx hx'=>?_;have hbl':=(yd.1 hx').1;by_cases e:H=b
  ·subst e;exact h _ (by rw[yq (by simpa using hbl'),yt hbl'])
  ·exact h x (by rw[yq (by simpa using hbl'),yo (λx=>e x.symm)];exact hx')
 ·rcases O h with ⟨rfl,rfl⟩|⟨hn,hl',hz⟩|⟨rfl,rfl⟩
  ·rw[U W];exact hM.gens _ _ g hx hlt'
  ·rw[U hl'];exact hM.gens _ _ g hz hlt'
  ·rw[Gh.put_ne _ _ (λx=>by simp only at hlt';omega)];exact hnb g
 ·have hN: ∀{H:Nat} {z:bK},mem[H]?=some (some z)->eT G H z C->L.blk=some C->False:=λhz hC hLC=>hM.inA b _ bx _ B i c C hx hB (hLB C hLC).1 hz hC;rcases O Z with ⟨rfl,rfl⟩|⟨hn1,M,hz1⟩|⟨rfl,rfl⟩<;>rcases O K with ⟨rfl,rfl⟩|⟨hn2,hl2',hz2⟩|⟨rfl,rfl⟩
  ·rfl
  ·rw[U W]at l1;rw[U hl2']at l2;exact hM.apart _ _ bx z2 L1 L2 C hx hz2 l1 l2 k1 k2
  ·exact(hN hx (J (z':=bx) W rfl ⟨L1,l1,k1⟩) (N rfl ⟨L2,l2,k2⟩)).elim
  ·rw[U M]at l1;rw[U W]at l2;exact hM.apart _ _ z1 bx L1 L2 C hz1 hx l1 l2 k1 k2
  ·rw[U M]at l1;rw[U hl2']at l2;exact hM.apart _ _ z1 z2 L1 L2 C hz1 hz2 l1 l2 k1 k2
  ·exact(hN hz1 (J (z':=z1) M rfl ⟨L1,l1,k1⟩) (N rfl ⟨L2,l2,k2⟩)).elim
  ·exact(hN hx (J (z':=bx) W rfl ⟨L2,l2,k2⟩) (N rfl ⟨L1,l1,k1⟩)).elim
  ·exact(hN hz2 (J (z':=z2) hl2' rfl ⟨L2,l2,k2⟩) (N rfl ⟨L1,l1,k1⟩)).elim
  ·rfl
 ·have hb1: ∃z0 C0,mem[b1]?=some (some z0)/\eT G b1 z0 C/\cN w C z0.row V Y B'/\(b1=b->¬(V=i/\Y=c))/\C0=C:=by
   rcases O Z with ⟨rfl,rfl⟩|⟨hn1,M,hz1⟩|⟨rfl,rfl⟩
   ·exact⟨bx,C,hx,J W rfl k1,(hinn hi).1,λ_=>(hinn hi).2,rfl⟩
   ·exact⟨z1,C,hz1,J M rfl k1,hi,λh=>absurd h hn1,rfl⟩
   ·have:=hi.own;rw[g3]at this;cases this
  obtain⟨z0,_,hz0,hC0,hi0,hne0,_⟩:=hb1;rcases O K with ⟨rfl,rfl⟩|⟨hn2,hl2',hz2⟩|⟨rfl,rfl⟩
  ·exact hM.inA _ _ z0 bx C V Y B' hz0 hC0 hi0 hx (J W rfl k2)
  ·exact hM.inA _ _ z0 z2 C V Y B' hz0 hC0 hi0 hz2 (J hl2' rfl k2)
  ·have hLC:=N rfl k2;obtain⟨e1,e2,e3⟩:=hM.inB _ _ z0 bx C B V Y i c B' hz0 hC0 hi0 hx hB (hLB B' hLC).1;exact hne0 e1 ⟨e2,e3⟩
 ·have hb1: ∀{b1:Nat} {z1:bK} {C V Y:Nat},(mem.set b (some {bx with row:= .own e xs ((i,c,.msw mem.length 0)::hs)})++ [some {gen:=0,frz:=false,row}])[b1]?=some (some z1)->eT (G.put mem.length 0 L) b1 z1 C->cN w C z1.row V Y B'->
    ∃z0,mem[b1]?=some (some z0)/\eT G b1 z0 C/\cN w C z0.row V Y B':=by
   intro b1 z1 C V Y Z k1 hi;rcases O Z with ⟨rfl,rfl⟩|⟨hn1,M,hz1⟩|⟨rfl,rfl⟩
   ·exact⟨bx,hx,J W rfl k1,(hinn hi).1⟩
   ·exact⟨z1,hz1,J M rfl k1,hi⟩
   ·have:=hi.own;rw[g3]at this;cases this
  obtain⟨y1,a1,a2,a3⟩:=hb1 Z k1 hi;obtain⟨y2,d1,d2,d3⟩:=hb1 K k2 hi2;exact hM.inB _ _ y1 y2 C D V Y i2 c2 B' a1 a2 a3 d1 d2 d3
end Go.Ab
end
section
namespace Go.Ab
variable [cF]
theorem D5: ∀{a b:List aZ},e6 (a++b)=e6 a++e6 b
 | [],b=>rfl
 |r::a,b=>by simp[e6,D5 (a:=a)]
theorem Eo: ∀{a:List aZ},(e6 a).length=a.length
 | []=>rfl
 |r::a=>by simp[e6,Eo (a:=a)]
theorem Td{m n:aK}{b:Nat}{x:Option bK}(h:b<m.length):(m++n).set b x=m.set b x++n:=List.set_append_left _ _ h
theorem sT{m:aK}{b:Nat}{x:Option bK}(h:m[b]?=some x):m.set b x=m:=by
 have H:=(yd.1 h).1;apply List.ext_getElem?;intro j;by_cases e:b=j
 ·subst e;rw[yt H,h]
 ·rw[yo e]
section
variable {P:Program}
theorem Qa{l:LK}{y:PV}{a:AV}(hf:AB l=true)(h:gJ true l y=some a): ∃u,y= .lit u/\a= .lit u/\mW u=true:=by
 cases l with
 |int k=>
  simp only[gJ]at h;rw[bind_some]at h;obtain⟨x,H,h⟩:=h;obtain rfl:=ya h;unfold PV.int? at H;split at H
  ·rename_i K n;cases J:iK k K with
   |true=>rw[J]at H;obtain rfl:=ya H;rw[kS]at J;subst J;exact⟨_,rfl,rfl,rfl⟩
   |false=>rw[J]at H;cases H
  ·cases H
 |bool=>
  simp only[gJ]at h;rw[bind_some]at h;obtain⟨x,H,h⟩:=h;obtain rfl:=ya h;unfold PV.bool? at H;split at H
  ·obtain rfl:=ya H;exact⟨_,rfl,rfl,rfl⟩
  ·cases H
 |str=>
  simp only[gJ]at h;rw[bind_some]at h;obtain⟨x,H,h⟩:=h;obtain rfl:=ya h;unfold PV.str? at H;split at H
  ·obtain rfl:=ya H;exact⟨_,rfl,rfl,rfl⟩
  ·cases H
 |ints k=>cases hf
 |sl t e=>cases hf
structure Uh (G:Gh) (w:World) (mem:aK) (b:Nat) (bx:bK) (e:Nat) (xs:List PV) (hs':List (Nat×Nat×AV)) (rows:List aZ) (G':Gh):Prop where
 gle:c5 G G'
 memr:aH G' w (mem.set b (some {bx with row:= .own e xs hs'})++e6 rows)
theorem wZ{G:Gh}{w:World}{mem:aK}{b:Nat}{N:bK}{B e i c:Nat}{xs:List PV}{hs:List (Nat×Nat×AV)}{tk:Bool}{l:LK}{r:AV×List (Nat×Nat×AV)×List aZ}(hM:aH G w mem)
  (W:mem[b]?=some (some N)) (J:N.row= .own e xs hs) (hB:eT G b N B) (h:pJ tk xs i c l hs mem.length=some r):
  ∃O v,cl w B (i*e+c)=some v/\VR O w r.1 v/\Uh G w mem b N e xs r.2.1 r.2.2 O/\(r.2.2= []->r.2.1=hs):=by
 unfold pJ at h;rw[bind_some]at h;obtain⟨p,hp,h⟩:=h;rw[bind_some]at h;obtain⟨y,hy,h⟩:=h;obtain⟨_,_,_,_,_,_,hr,_⟩:=hM.blk W hB;rw[J]at hr;obtain⟨v,hv,hv1,K⟩:=LH hr hp hy;have same:Uh G w mem b N e xs hs [] G:=by
  refine⟨c5.refl G,?_⟩;simp only[e6,yo1];have:(some {N with row:= .own e xs hs}:Option bK)=some N:=by rw[<-J]
  rw[this,sT W];exact hM
 split at h
 ·rename_i hh hf;rw[aA]at h;obtain⟨hi,h⟩:=h;obtain rfl:=ya h;obtain rfl:=bN.1 hi;rw[Af hf]at K;exact⟨G,v,hv,K,same,λ_=>rfl⟩
 ·rename_i hf;rw[dV hf]at K;cases M:AB l with
  |true=>
   rw[M]at h;simp only[yg]at h;obtain⟨a,ha,rfl⟩:=ye.1 h;obtain⟨u,rfl,rfl,hu⟩:=Qa M ha;refine⟨G,v,hv,?_,same,λ_=>rfl⟩;rcases K with ⟨u',V,rfl⟩|⟨row,H,_⟩
   ·obtain rfl:u=v:=by simpa using V
    exact .lit u hu
   ·cases H
  |false=>
   rw[M]at h;simp only[yh]at h;rw[aA]at h;obtain⟨_,h⟩:=h;obtain⟨row,H,rfl⟩:=ye.1 h;obtain⟨O,v',_,Z,hg,Y,U⟩:=NK hM W J hB hp hy (dV hf) H;exact⟨O,v',Z,Y,⟨hg,U⟩,λh=>by cases h⟩
theorem Ch{w:World}{b:Nat}{B e i:Nat}{xs:List PV}{tk:Bool}: ∀{ls:List LK} {c:Nat} {G:Gh} {mem:aK} {J:bK} {hs:List (Nat×Nat×AV)} {r:List AV×List (Nat×Nat×AV)×List aZ},aH G w mem->
  mem[b]?=some (some J)->J.row= .own e xs hs->eT G b J B->qH tk xs i ls c hs mem.length=some r->
  ∃G',Uh G w mem b J e xs r.2.1 r.2.2 G'/\(r.2.2= []->r.2.1=hs)/\r.1.length=ls.length/\∀(j:Nat) (a:AV),r.1[j]?=some a->∃v,cl w B (i*e+c+j)=some v/\VR G' w a v
 | [],c,G,mem,J,hs,r,hM,hx,H,hB,h=>by
  obtain rfl:=ya h;refine⟨G,⟨c5.refl G,?_⟩,λ_=>rfl,rfl,λj a ha=>by simp at ha⟩;simp only[e6,yo1];have:(some {J with row:= .own e xs hs}:Option bK)=some J:=by rw[<-H]
  rw[this,sT hx];exact hM
 |l::ls,c,G,mem,J,hs,r,hM,hx,H,hB,h=>by
  simp only[qH]at h;rw[bind_some]at h;obtain⟨a,ha,h⟩:=h;obtain⟨q,hq,rfl⟩:=ye.1 h;obtain⟨G1,v,hv,hvr,⟨W,hM1⟩,N⟩:=wZ hM hx H hB ha;have O:=(yd.1 hx).1;have hx1:(mem.set b (some {J with row:= .own e xs a.2.1})++e6 a.2.2)[b]?=some (some {J with row:= .own e xs a.2.1}):=by
   rw[yq (by simpa using O),yt O]
  have hB1:eT G1 b {J with row:= .own e xs a.2.1} B:=by
   obtain⟨L,hl,hk⟩:=hB;exact⟨L,W.loc _ _ _ hl,hk⟩
  obtain⟨G2,⟨Y,Z⟩,K,V,hvs⟩:=Ch (ls:=ls) (c:=c+1) hM1 hx1 rfl hB1 (by rw[yi,yt2,Eo];exact hq);refine⟨G2,⟨W.trans Y,?_⟩,λhn=>?_,by simp[V],λj a' M=>?_⟩
  ·rw[Td (by simpa using O),List.set_set]at Z;rw[D5,<-ya3];exact Z
  ·have U:=List.append_eq_nil_iff.1 hn;rw[K U.2,N U.1]
  ·cases j with
   |zero=>simp at M;subst M;exact⟨v,by simpa using hv,hvr.mono Y (Ev.refl _ _)⟩
   |succ j=>
    simp only[ym1]at M;obtain⟨u,hu,hur⟩:=hvs j a' M;exact⟨u,by rw[<-hu];congr 1;omega,hur⟩
theorem GH{mem:aK}{b e:Nat}{H:bK}{xs:List PV}{v:AV}{hs hs':List (Nat×Nat×AV)}{rows:List aZ}(K:mem[b]?=some (some H))(J:H.row= .own e xs hs)(hn:rows= []->hs'=hs):
  (BW b e H xs v (hs',rows)).apply mem=mem.set b (some {H with row:= .own e xs hs'})++e6 rows:=by
 unfold BW;cases rows with
 |nil=>
  simp only[dI.apply,aN,e6,yo1];obtain rfl:=hn rfl;have:(some {H with row:= .own e xs hs'}:Option bK)=some H:=by rw[<-J]
  rw[this,sT K]
 |cons r rows=>simp only[dI.apply,aN]
theorem OM{b e:Nat}{H:bK}{xs:List PV}{v:AV}{q:List (Nat×Nat×AV)×List aZ}:(BW b e H xs v q).v=v:=by
 unfold BW;split<;>rfl
theorem LI{G:Gh}{w:World}{mem:aK}{tk:Bool}{t:TypeId}{a:AV}{out:dI}{cv:Value}(hM:aH G w mem)(h:Ce P tk t mem a=some out)(ha:VR G w a cv):
  ∃V K,(Instr.loadAt t cv).run P w= .ok K w/\VR V w out.v K/\c5 G V/\aH V w (out.apply mem):=by
 unfold Ce at h;split at h
 ·rename_i b g i c;rw[bind_some]at h;obtain⟨bx,hbx,h⟩:=h;obtain⟨hm,hge,hown⟩:=boxO?_some hbx;split at h
  ·rename_i e xs hs H;obtain⟨B,a0,rfl,hl,ha0,_⟩:=hM.at_ptr' hm hge ha;obtain rfl:=ha0 (by rw[H];rfl);rw[yc1];have hB:eT G b bx B:=⟨_,by rw[hge];exact hl,rfl⟩
   rw[show bx.row.e=e by rw[H];rfl];have Y: ∀K,(loadVar t ⟨B,i*e+c,none⟩).run P w= .ok K w->(Instr.loadAt t (.pointer (some ⟨B,i*e+c,none⟩))).run P w= .ok K w:=by
    intro K hh;simp[Instr.loadAt,Instr.sureAddr,hh]
   split at h
   ·rename_i W;rw[bind_some]at h;obtain⟨l,hl',h⟩:=h;obtain⟨q,hq,rfl⟩:=ye.1 h;obtain⟨V,v,hv,U,⟨hg,N⟩,J⟩:=wZ hM hm H hB hq;refine⟨V,v,Y _ (jI W hv),by rw[OM];exact U,hg,?_⟩;rw[GH hm H J];exact N
   ·rename_i W;rw[bind_some]at h;obtain⟨ls,hls,h⟩:=h;rw[bind_some]at h;obtain⟨n,hn,h⟩:=h;rw[aA]at h;obtain⟨hnl,h⟩:=h;obtain⟨q,hq,rfl⟩:=ye.1 h;obtain rfl:=bN.1 hnl;obtain⟨V,⟨hg,N⟩,J,M,Z⟩:=Ch hM hm H hB hq;have O: ∀j,j<ls.length->cl w B (i*e+c+j)=some ((cl w B (i*e+c+j)).getD undef):=by
     intro j hj;obtain⟨v,hv,_⟩:=Z j _ (yf (by rw[M];exact hj));rw[hv];rfl
    refine⟨V,_,Y _ (mY W hn (λj=>(cl w B (i*e+c+j)).getD undef) O),?_,hg,?_⟩
    ·rw[OM];refine .agg _ _ (by simp[M]) λj y hy=>?_;have hj:j<ls.length:=by rw[<-M];exact(yd.1 hy).1
     obtain⟨v,hv,U⟩:=Z j y hy;simp only[yp];simp[hj,hv,U]
    ·rw[GH hm H J];exact N
   ·cases h
  ·cases h
 ·cases h
theorem NP{G:Gh}{w:World}{mem:aK}{t ty:TypeId}{x:AV}{out:dI}{cv:Value}(hM:aH G w mem)(h:MC P t mem x=some out)(Y:VR G w x cv):
  out.wr= []/\out.push= []/\∃n:Nat,out.v= .lit (.int .i64 (n:Int))/\((∃e,P.underlying t=some (.slice e))/\∃a cap,cv= .slice a n cap):=by
 unfold MC at h;split at h
 ·rename_i e b g U;obtain⟨O,K,rfl⟩:=ye.1 h;obtain⟨hm,M,N⟩:=boxO?_some K;subst M;refine⟨rfl,rfl,O.row.len,rfl,⟨_,U⟩,?_⟩;obtain⟨o,a0,H,V,Z⟩:=(hM.box b O hm).loc;cases Y with
  |msw _ _ cap L B J W hn hf=>
   rw[H]at J;obtain rfl:=ya J;exact⟨_,_,rfl⟩
  |mswNil _ _ L J W hn=>
   rw[H]at J;obtain rfl:=ya J;simp only at hn;rw[hn];exact⟨_,_,rfl⟩
 ·cases h
theorem JR{G:Gh}{w:World}{mem:aK}{t:TypeId}{x:AV}{k:IntKind}{i:Int}{out:dI}{cv:Value}(hM:aH G w mem)(h:sC P t mem x i=some out)(hx:VR G w x cv):
  out.wr= []/\out.push= []/\∃U,(Instr.indexAt t cv (.int k i)).run P w= .ok U w/\VR G w out.v U:=by
 unfold sC at h;split at h
 ·rename_i et hu;rw[bind_some]at h;obtain⟨s,hs,h⟩:=h;split at h
  ·rename_i b g o n;rw[bind_some]at h;obtain⟨Y,M,h⟩:=h;obtain⟨hm,N,W⟩:=boxO?_some M;subst N;rw[aA]at h;obtain⟨V,h⟩:=h;simp only[yc,decide_eq_true_eq]at V;obtain⟨⟨O,g2⟩,g3⟩:=V;have O:=bN.1 O;obtain rfl:=ya h;obtain⟨oo,a0,J,ha0,hmm⟩:=(hM.box b Y hm).loc;refine⟨rfl,rfl,?_⟩;cases hx with
   |ms _ _ _ _ cap L B K Z hn hon hf=>
    have H:=K;rw[J]at H;obtain rfl:=ya H;refine⟨_,d9 hu hs g2 g3 w,?_⟩;have:=VR.ptr (w:=w) b Y.gen (o+i.toNat) 0 _ B K Z;simp only at this;rw[O];simp only[ye2,<-yt1];simpa using this
   |msNil=>omega
   |msZ=>omega
  ·rename_i b g;rw[bind_some]at h;obtain⟨Y,M,h⟩:=h;obtain⟨hm,N,W⟩:=boxO?_some M;subst N;rw[aA]at h;obtain⟨V,h⟩:=h;simp only[yc,decide_eq_true_eq]at V;obtain⟨⟨O,g2⟩,g3⟩:=V;have O:=bN.1 O;obtain rfl:=ya h;obtain⟨oo,a0,J,ha0,hmm⟩:=(hM.box b Y hm).loc;refine⟨rfl,rfl,?_⟩;cases hx with
   |msw _ _ cap L B K Z hn hf=>
    have H:=K;rw[J]at H;obtain rfl:=ya H;refine⟨_,d9 hu hs g2 g3 w,?_⟩;have:=VR.ptr (w:=w) b Y.gen i.toNat 0 _ B K Z;simp only at this;rw[O];simpa using this
   |mswNil _ _ L K Z hn=>
    rw[J]at K;obtain rfl:=ya K;simp only at hn;omega
  ·cases h
 ·cases h
theorem JY{G:Gh}{w:World}{mem:aK}{t:TypeId}{x:AV}{lo hi mx:Option Int}{vl vh vm:Option Value}{out:dI}{cv:Value}(hM:aH G w mem)(h:sH P t mem x lo hi mx=some out)(hx:VR G w x cv)
  (hl:o4 lo vl) (hh:o4 hi vh) (hm:o4 mx vm):TU G w P (Instr.sliceAt t cv vl vh vm) out:=by
 unfold sH at h;split at h
 ·rename_i et hu;rw[bind_some]at h;obtain⟨s,hs,h⟩:=h;split at h
  ·rename_i b g o n;rw[bind_some]at h;obtain⟨bx,M,h⟩:=h;obtain⟨V,U,hown⟩:=boxO?_some M;subst U;rw[aA]at h;obtain⟨O,h⟩:=h;have O:=bN.1 O;subst O;obtain⟨⟨l,h'⟩,N,rfl⟩:=ye.1 h;obtain⟨oo,a0,H,ha0,hmm'⟩:=(hM.box b bx V).loc;cases hx with
   |ms _ _ _ _ cap L B hL hB hn K hf=>
    have J:=hL;rw[H]at J;obtain rfl:=ya J;simp only at hB K hf⊢;subst hB;obtain⟨m,hr,h1,W,Y,Z⟩:=cH (P:=P) (isSlice:=true) (cap:=cap) N hn hl hh hm w;have:=Bw (o:=o) (n:=n) hL hf K h1 W Y Z;exact⟨rfl,rfl,_,a9 hu hs hr,by simpa[dC]using this⟩
   |msNil _ _ L hL hB=>
    rw[H]at hL;obtain rfl:=ya hL;simp only at hB;subst hB;obtain⟨m,hr,h1,W,Y,Z⟩:=cH (P:=P) (isSlice:=true) (cap:=0) N (by simp) hl hh hm w;refine⟨rfl,rfl,_,a9 hu hs (a:=none) hr,?_⟩;obtain rfl:l=0:=by omega
    obtain rfl:h'=0:=by omega
    obtain rfl:m=0:=by omega
    exact .msNil b _ _ H rfl
   |msZ _ _ _ B oo2 L hL hB ho K=>
    obtain⟨m,hr,h1,W,Y,Z⟩:=cH (P:=P) (isSlice:=true) (cap:=0) N (by simp) hl hh hm w;refine⟨rfl,rfl,_,a9 hu hs (a:=some ⟨B,oo2,none⟩) hr,?_⟩;obtain rfl:l=0:=by omega
    obtain rfl:h'=0:=by omega
    obtain rfl:m=0:=by omega
    simpa[dC]using VR.msZ (w:=w) b bx.gen o B oo2 L hL hB ho K
  ·rename_i b g;rw[bind_some]at h;obtain⟨bx,M,h⟩:=h;obtain⟨V,U,hown⟩:=boxO?_some M;subst U;rw[aA]at h;obtain⟨O,h⟩:=h;have O:=bN.1 O;subst O;obtain⟨⟨l,h'⟩,N,rfl⟩:=ye.1 h;obtain⟨oo,a0,H,ha0,hmm'⟩:=(hM.box b bx V).loc;cases hx with
   |msw _ _ cap L B hL hB hn hf=>
    have J:=hL;rw[H]at J;obtain rfl:=ya J;simp only at hB hn hf⊢;subst hB;obtain⟨m,hr,h1,W,Y,Z⟩:=cH (P:=P) (isSlice:=true) (cap:=cap) N hn hl hh hm w;have:=Bw (o:=0) (n:=bx.row.len) hL (by simpa using hf) (by simp) h1 W Y Z;exact⟨rfl,rfl,_,a9 hu hs hr,by simpa[dC]using this⟩
   |mswNil _ _ L hL hB hn=>
    rw[H]at hL;obtain rfl:=ya hL;simp only at hB hn;subst hB;rw[hn]at N;obtain⟨m,hr,h1,W,Y,Z⟩:=cH (P:=P) (isSlice:=true) (cap:=0) N (by simp) hl hh hm w;refine⟨rfl,rfl,_,a9 hu hs (a:=none) hr,?_⟩;obtain rfl:l=0:=by omega
    obtain rfl:h'=0:=by omega
    obtain rfl:m=0:=by omega
    exact .msNil b _ _ H rfl
  ·cases h
 ·cases h
end
end Go.Ab
end
section
namespace Go.Ab
variable [cF]
theorem PC{v:Value}(h:v.oneCell'=true):v.cells.toList= [v]:=by
 cases v<;>first|rfl|cases h
theorem wP{p z y:PV}{c:Nat}(hc:p.cells[c]?=some y)(J:z.cells= [z])(j:Nat):(jZ p c z).cells[j]?=(if j=c then some z else p.cells[j]?):=by
 have H:=(yd.1 hc).1;cases p with
 |agg cs=>
  show(cs.set c z)[j]?=_
  by_cases e:j=c
  ·subst e;rw[if_pos rfl,yt (show j<cs.length from H)]
  ·rw[if_neg e,yo (λx=>e x.symm)];rfl
 |_=>
  have K:c=0:=by simp[PV.cells]at H;exact H
  subst K;show z.cells[j]?=_;rw[J];by_cases e:j=0
  ·subst e;rfl
  ·rw[if_neg e];obtain⟨k,rfl⟩: ∃k,j=k+1:=⟨j-1,by omega⟩
   simp[PV.cells]
theorem Io{p z y:PV}{c:Nat}(hc:p.cells[c]?=some y)(H:z.cells= [z]):(jZ p c z).cells.length=p.cells.length:=by
 cases p with
 |agg cs=>show(cs.set c z).length=cs.length;simp
 |_=>show z.cells.length=1;rw[H];rfl
theorem Kh{α:Type}{xs:List α}{i j:Nat}{v x:α}(h:(xs.set i v)[j]?=some x):(j=i/\x=v)\/(j≠i/\xs[j]?=some x):=by
 by_cases e:j=i
 ·subst e;have H:=(yd.1 h).1;rw[yt (by simpa using H)]at h;exact .inl ⟨rfl,by simpa using h.symm⟩
 ·rw[yo (λx=>e x.symm)]at h;exact .inr ⟨e,h⟩
def nO(G:Gh)(w:World)(o:Option AV)(y:PV)(u:Value):Prop:=
 (∃a,o=some a/\VR G w a u)\/(o=none/\((∃z,y= .lit z/\u=z)\/∃row,cW y=some row/\u= .slice none 0 0/\row.len=0))
theorem nO.hr{G H:Gh}{w J:World}{o:Option AV}{y:PV}{u:Value}(N:c5 G H)(U:Ev G w J)(h:nO G w o y u):HR H J o y u:=by
 rcases h with ⟨a,rfl,h⟩|⟨rfl,⟨z,rfl,rfl⟩|⟨row,M,O,K⟩⟩
 ·exact h.mono N U
 ·exact .inl ⟨_,rfl,rfl⟩
 ·exact .inr ⟨row,M,.inl ⟨O,K⟩⟩
theorem nO.out{G:Gh}{w:World}{y:PV}{u:Value}{row:aZ}{a:Addr}{n cap:Nat}(h:nO G w none y u)(H:cW y=some row):u≠ .slice (some a) n cap:=by
 rcases h with ⟨a,h,_⟩|⟨_,⟨z,rfl,rfl⟩|⟨row,h1,J,h3⟩⟩
 ·cases h
 ·cases H
 ·rw[J];intro h;cases h
theorem Cx{G:Gh}{w:World}{mem:aK}{b:Nat}{bx:bK}{B e i c:Nat}{xs U:List PV}{hs hs':List (Nat×Nat×AV)}{p y:PV}{V:Value}(hM:aH G w mem)(hx:mem[b]?=some (some bx))(H:bx.row= .own e xs hs)(hB:eT G b bx B)
  (hfrz:bx.frz=false) (hp:xs[i]?=some p) (hy:p.cells[c]?=some y) (h1:V.oneCell'=true) (hlen:U.length=xs.length) (hbnd: ∀h∈hs',h.1<xs.length) (hel: ∀x∈U,x.cells.length=e)
  (hA: ∀K x' J O,U[K]?=some x'->x'.cells[J]?=some O->¬(K=i/\J=c)->∃x0,xs[K]?=some x0/\x0.cells[J]?=some O/\aG K J hs'=aG K J hs)
  (hC: ∀x' O,U[i]?=some x'->x'.cells[c]?=some O->nO G w (aG i c hs') O V):
  Ev G w (w.setCells B (i*e+c) [V])/\aH G (w.setCells B (i*e+c) [V]) (mem.set b (some {bx with row:= .own e U hs'})):=by
 obtain⟨a0,hl,ha0,hmi,hlt,hfr,hr,hpr⟩:=hM.blk hx hB;obtain rfl:=ha0 (by rw[H];rfl);rw[H]at hr;have hr0:=hr;obtain⟨r1,r2,r3⟩:=hr;have hce:c<e:=by rw[<-r2 p (yk hp)];exact(yd.1 hy).1
 obtain⟨v0,hv0,_⟩:=r3 i p c y hp hy;have Y: ∀j,j< [V].length->(cl w B (i*e+c+j)).isSome=true:=λj hj=>by
  have:j=0:=by simpa using hj
  subst this;rw[yw1,hv0];rfl
 have hat:cl (w.setCells B (i*e+c) [V]) B (i*e+c)=some V:=by
  have:=kR (w:=w) (B:=B) (o:=i*e+c) (vs:= [V]) Y (j:=0) (by simp);simpa using this
 have hoff: ∀K J,J<e->¬(K=i/\J=c)->cl (w.setCells B (i*e+c) [V]) B (K*e+J)=cl w B (K*e+J):=by
  intro K J hc' hne;refine jL ?_;have hd:=Cz (i:=i) hce;have hd':=Cz (i:=K) hc';have:K*e+J≠i*e+c:=λh=>hne ⟨by rw[<-hd'.1,<-hd.1,h],by rw[<-hd'.2,<-hd.2,h]⟩;simp;omega
 have:=Ja (row':= .own e U hs') (o:=i*e+c) (xs:= [V]) hM hx (by rw[H];rw[H]at hl;exact hl) hfrz Y (by rw[H];rfl) (by rw[H];exact hlen) (λ_=>rfl)
  (λhev=>⟨λh hh=>by rw[hlen];exact hbnd h hh,hel,λK x' J O g1 g2=>?_⟩) (λK J X hi=>?_)
 ·exact this
 ·have W:J<e:=by rw[<-hel x' (yk g1)];exact(yd.1 g2).1
  by_cases hh:K=i/\J=c
  ·obtain⟨rfl,rfl⟩:=hh;exact⟨V,hat,h1,(hC x' O g1 g2).hr (c5.refl G) hev⟩
  ·obtain⟨x0,k1,k2,k3⟩:=hA K x' J O g1 g2 hh;obtain⟨v,hv,hv1,Z⟩:=r3 K x0 J O k1 k2;refine⟨v,by rw[hoff K J W hh];exact hv,hv1,?_⟩;rw[k3];cases ho:aG K J hs with
   |some a=>rw[ho]at Z;exact VR.mono (c5.refl G) hev Z
   |none=>
    rw[ho]at Z;refine OR.mono (c5.refl G) hev Z λX a' n cap N hvv=>?_;obtain⟨row2,N⟩:=N;have hi:cN w B bx.row K J X:=by rw[H];exact⟨⟨x0,O,row2,k1,k2,N⟩,ho,a',n,cap,by rw[hv,hvv]⟩
    have hne:X≠B:=λh=>hM.inA b b bx bx B K J X hx hB hi hx (by rw[h];exact hB);exact⟨.of (dK (w:=w) hne _ _ w),(hM.inn hx hB hi).2.2.2⟩
 ·obtain⟨⟨x',O,row,g1,g2,g3⟩,ho,a',n,cap,M⟩:=hi;have W:J<e:=by rw[<-hel x' (yk g1)];exact(yd.1 g2).1
  by_cases hh:K=i/\J=c
  ·obtain⟨rfl,rfl⟩:=hh;rw[hat]at M;have hn:=hC x' O g1 g2;rw[ho]at hn;exact absurd (ya M) (hn.out g3)
  ·obtain⟨x0,k1,k2,k3⟩:=hA K x' J O g1 g2 hh;rw[hoff K J W hh]at M;rw[H];exact⟨⟨x0,O,row,k1,k2,g3⟩,by rw[<-k3];exact ho,a',n,cap,M⟩
theorem G5{c i:Nat}{v:AV}: ∀{hs:List (Nat×Nat×AV)},k8 c hs=some (i,v)->∀K J,¬(K=i/\J=c)->aG K J (Bz c hs)=aG K J hs
 | [],h=>by cases h
 |(j,J,u)::r,h=>by
  intro U O H;simp only[k8]at h;simp only[Bz];cases M:Nat.beq c J with
  |true=>
   rw[M]at h;simp only[yg,Option.some.injEq,Prod.mk.injEq]at h;obtain⟨rfl,rfl⟩:=h;obtain rfl:=bN.1 M;simp only[yg,aG];rw[if_neg (λN=>H ⟨N.1.symm,N.2.symm⟩)]
  |false=>
   rw[M]at h;simp only[yh]at h;simp only[yh,aG];split
   ·rfl
   ·exact G5 h U O H
theorem IJ{c:Nat}: ∀{hs:List (Nat×Nat×AV)},∀h∈Bz c hs,h∈hs
 | [],h,H=>by cases H
 |(j,K,u)::r,h,H=>by
  simp only[Bz]at H;cases J:Nat.beq c K with
  |true=>rw[J]at H;exact yj _ H
  |false=>
   rw[J]at H;simp only[yh]at H;rcases yj1.1 H with rfl|H
   ·exact yn ..
   ·exact yj _ (IJ h H)
theorem F3{i c:Nat}{hs hs':List (Nat×Nat×AV)}(h:Eu i c hs=some hs'):(∀H K,¬(H=i/\K=c)->aG H K hs'=aG H K hs)/\aG i c hs'=none/\∀x∈hs',x∈hs:=by
 unfold Eu at h;split at h
 ·rename_i hf;obtain rfl:=ya h;exact⟨λ_ _ _=>rfl,dV hf,λ_ h=>h⟩
 ·rename_i q hf;rw[aA]at h;obtain⟨J,h⟩:=h;simp only[yc]at J;obtain rfl:=bN.1 J.1;obtain rfl:=ya h;obtain⟨i0,v⟩:=q;exact⟨G5 hf,dV (Option.isNone_iff_eq_none.1 J.2),IJ⟩
section
variable {P:Program}
theorem JC{G:Gh}{w:World}{mem:aK}{t:TypeId}{a x:AV}{out:dI}{ca cx:Value}(hM:aH G w mem)(h:nA P t mem a x=some out)(ha:VR G w a ca)(hx:VR G w x cx):
  out.v= .lit undef/\∃w',(Instr.storeAt t ca cx).run P w= .ok () w'/\Ev G w w'/\aH G w' (out.apply mem):=by
 unfold nA at h;split at h
 ·rename_i b g i c;rw[bind_some]at h;obtain⟨bx,hbx,h⟩:=h;obtain⟨hm,hge,hown⟩:=boxO?_some hbx;split at h
  ·rename_i e xs hs J;rw[bind_some]at h;obtain⟨n,hn,h⟩:=h;rw[aA]at h;obtain⟨hg,h⟩:=h;simp only[yc,yw]at hg;obtain⟨⟨g1,g2⟩,g3⟩:=hg;obtain rfl:=bN.1 g1;rw[bind_some]at h;obtain⟨p,hp,h⟩:=h;rw[bind_some]at h;obtain⟨y,hy,h⟩:=h;obtain⟨B,a0,rfl,hl,ha0,hmine,hB0,hfz,hr,hpr⟩:=hM.at_ptr' hm hge ha;obtain rfl:=ha0 (by rw[J];rfl);rw[yc1];have hB:eT G b bx B:=⟨_,by rw[hge];exact hl,rfl⟩
   rw[show bx.row.e=e by rw[J];rfl];rw[J]at hr;have h1:=LN hx g3;have hcc:=PC h1;have hel:=hr.2.1;have W:=hr.1;have Z:(Instr.storeAt t (.pointer (some ⟨B,i*e+c,none⟩)) cx).run P w= .ok () (w.setCells B (i*e+c) [cx]):=by
    obtain⟨v0,hv0,_⟩:=hr.2.2 i p c y hp hy;have hs1: ∀j,j<1->(cl w B (i*e+c+j)).isSome=true:=λj hj=>by
     have:j=0:=by omega
     subst this;rw[yw1,hv0];rfl
    have:=BE (P:=P) (cv:=cx) (B:=B) (o:=i*e+c) (w:=w) hn (by rw[<-yd2,hcc];rfl) hs1 (λj hj=>hfz.cell (hs1 j hj)) (by rw[hcc];simpa using h1);rw[hcc]at this;simp[Instr.storeAt,Instr.sureAddr,this]
   have hset: ∀z:PV,z.cells= [z]->(∀x∈xs.set i (jZ p c z),x.cells.length=e)/\(xs.set i (jZ p c z)).length=xs.length/\
     (∀M x' U K,(xs.set i (jZ p c z))[M]?=some x'->x'.cells[U]?=some K->¬(M=i/\U=c)->∃x0,xs[M]?=some x0/\x0.cells[U]?=some K)/\
     (∀x' K,(xs.set i (jZ p c z))[i]?=some x'->x'.cells[c]?=some K->K=z):=by
    intro z hz;refine⟨λx hx=>?_,by simp,λM x' U K k1 N H=>?_,λx' K k1 N=>?_⟩
    ·rcases yi2 hx with h|h
     ·exact hel x h
     ·rw[h,Io hy hz];exact hel p (yk hp)
    ·rcases Kh k1 with ⟨rfl,rfl⟩|⟨hn,k1⟩
     ·rw[wP hy hz,if_neg (λh=>H ⟨rfl,h⟩)]at N;exact⟨p,hp,N⟩
     ·exact⟨x',k1,N⟩
    ·rcases Kh k1 with ⟨_,rfl⟩|⟨hn,_⟩
     ·rw[wP hy hz,if_pos rfl]at N;exact(ya N).symm
     ·exact absurd rfl hn
   split at h
   ·rename_i u v;rw[aA]at h;obtain⟨hg,h⟩:=h;simp only[yc]at hg;obtain rfl:=ya h;obtain rfl:=hx.lit_inv;obtain⟨s1,s2,s3,s4⟩:=hset (.lit cx) rfl;have ho:=dV (i:=i) (Option.isNone_iff_eq_none.1 hg.2);obtain⟨V,Y⟩:=Cx hM hm J hB g2 hp hy h1 s2 W s1 (λM x' U K k1 N H=>by obtain⟨x0,q1,q2⟩:=s3 M x' U K k1 N H;exact⟨x0,q1,q2,rfl⟩) (λx' K k1 N=> .inr ⟨ho,.inl ⟨cx,s4 x' K k1 N,rfl⟩⟩);exact⟨rfl,_,Z,V,by rw[dO];exact Y⟩
   ·cases h
   ·rename_i hny;rw[bind_some]at h;obtain⟨K,O,h⟩:=h;obtain⟨hs',hfr,rfl⟩:=ye.1 h;obtain rfl:=hx.lit_inv;obtain⟨f1,f2,f3⟩:=F3 hfr;have hz:K.cells= [K]/\∃row',cW K=some row'/\row'.len=0:=by
     cases y with
     |ints k ys=>obtain rfl:=ya O;exact⟨rfl,_,rfl,rfl⟩
     |sl e' ys=>
      simp only[B7]at O;rw[aA]at O;obtain⟨he,O⟩:=O;obtain rfl:=ya O;exact⟨rfl,.pvs false e' [],by simp only[cW,guardB,he,yg],rfl⟩
     |lit u=>cases O
     |agg cs=>cases O
    obtain⟨hz,row',hl',h0'⟩:=hz;obtain⟨s1,s2,s3,s4⟩:=hset K hz;obtain⟨V,Y⟩:=Cx hM hm J hB g2 hp hy h1 s2 (λh hh=>W h (f3 h hh)) s1 (λM x' U K k1 N H=>by obtain⟨x0,q1,q2⟩:=s3 M x' U K k1 N H;exact⟨x0,q1,q2,f1 M U H⟩)
     (λx' y2 k1 N=> .inr ⟨f2,.inr ⟨row',by rw[s4 x' y2 k1 N];exact hl',rfl,h0'⟩⟩)
    exact⟨rfl,_,Z,V,by rw[dO];exact Y⟩
   ·cases h
   ·obtain⟨hs',hfr,rfl⟩:=ye.1 h;obtain⟨f1,f2,f3⟩:=F3 hfr;have hhead: ∀M U,¬(M=i/\U=c)->aG M U ((i,c,x)::hs')=aG M U hs:=by
     intro M U H;simp only[aG];rw[if_neg (λhh=>H ⟨hh.1.symm,hh.2.symm⟩)];exact f1 M U H
    obtain⟨V,Y⟩:=Cx (hs':=(i,c,x)::hs') hM hm J hB g2 hp hy h1 rfl (λh hh=>by
      rcases yj1.1 hh with rfl|hh
      ·exact(yd.1 hp).1
      ·exact W h (f3 h hh)) hel (λM x' U K k1 N H=>⟨x',k1,N,hhead M U H⟩)
     (λx' y2 k1 N=> .inl ⟨x,by simp[aG],hx⟩)
    exact⟨rfl,_,Z,V,by rw[dO];exact Y⟩
  ·cases h
 ·cases h
theorem iB{i c:Nat}: ∀{a b:List (Nat×Nat×AV)},aG i c (a++b)=(match aG i c a with|some v=>some v|none=>aG i c b)
 | [],b=>rfl
 |(i',c',v)::a,b=>by
  simp only[yk3,aG];split
  ·rfl
  ·exact iB
theorem fX{i c:Nat}: ∀{hs:List (Nat×Nat×AV)},(∀h∈hs,¬(h.1=i/\h.2.1=c))->aG i c hs=none
 | [],_=>rfl
 |(i',c',v)::r,h=>by
  simp only[aG];rw[if_neg (h _ (yn ..))];exact fX λx H=>h x (yj _ H)
theorem LU{G:Gh}{w:World}{l:LK}{v:AV}{j c:Nat}{q:PV×List (Nat×Nat×AV)}{u:Value}(h:B8 l v j c=some q)(J:VR G w v u):
  nO G w (aG j c q.2) q.1 u/\q.1.cells= [q.1]/\∀x∈q.2,x.1=j/\x.2.1=c:=by
 unfold B8 at h;have hole: ∀{p:PV},q=(p,[(j,c,v)])->p.cells= [p]->nO G w (aG j c q.2) q.1 u/\q.1.cells= [q.1]/\∀x∈q.2,x.1=j/\x.2.1=c:=by
  rintro p rfl K
  exact⟨.inl ⟨v,by simp[aG],J⟩,K,λx H=>by simp at H;subst H;exact⟨rfl,rfl⟩⟩
 split at h
 ·rw[aA]at h;obtain⟨_,h⟩:=h;obtain rfl:=ya h;obtain rfl:=J.lit_inv;exact⟨.inr ⟨rfl,.inl ⟨_,rfl,rfl⟩⟩,rfl,λx H=>by cases H⟩
 ·obtain rfl:=ya h;obtain rfl:=J.lit_inv;exact⟨.inr ⟨rfl,.inl ⟨_,rfl,rfl⟩⟩,rfl,λx H=>by cases H⟩
 ·obtain rfl:=ya h;obtain rfl:=J.lit_inv;exact⟨.inr ⟨rfl,.inl ⟨_,rfl,rfl⟩⟩,rfl,λx H=>by cases H⟩
 ·obtain rfl:=ya h;obtain rfl:=J.lit_inv;exact⟨.inr ⟨rfl,.inr ⟨_,rfl,rfl,rfl⟩⟩,rfl,λx H=>by cases H⟩
 ·rename_i t e;rw[aA]at h;obtain⟨M,h⟩:=h;obtain rfl:=ya h;obtain rfl:=J.lit_inv;exact⟨.inr ⟨rfl,.inr ⟨.pvs false e [],by simp only[cW,guardB,M,yg],rfl,rfl⟩⟩,rfl,λx H=>by cases H⟩
 ·exact hole (ya h).symm rfl
 ·exact hole (ya h).symm rfl
 ·rw[aA]at h;obtain⟨_,h⟩:=h;exact hole (ya h).symm rfl
 ·rw[aA]at h;obtain⟨_,h⟩:=h;exact hole (ya h).symm rfl
 ·cases h
theorem CL{G:Gh}{w:World}{j:Nat}: ∀{ls:List LK} {vs:List AV} {c:Nat} {q:List PV×List (Nat×Nat×AV)} {us:List Value},QE ls vs j c=some q->iW G w vs us->
  q.1.length=vs.length/\(∀x∈q.2,x.1=j/\c≤x.2.1)/\∀(k:Nat) (y:PV),q.1[k]?=some y->∃u,us[k]?=some u/\nO G w (aG j (c+k) q.2) y u/\y.cells= [y]
 | [],[],c,q,us,h,K=>by
  obtain rfl:=ya h;exact⟨rfl,λx H=>(nomatch H),λk y J=>by simp at J⟩
 | [],v::vs,c,q,us,h,_=>by simp[QE]at h
 |l::ls,[],c,q,us,h,_=>by simp[QE]at h
 |l::ls,v::vs,c,q,[],h,K=>by simp[iW]at K
 |l::ls,v::vs,c,q,u::us,h,K=>by
  simp only[QE]at h;rw[bind_some]at h;obtain⟨a,ha,h⟩:=h;obtain⟨r,hr,rfl⟩:=ye.1 h;obtain⟨a1,W,U⟩:=LU ha (K.2 0 v rfl);obtain⟨r1,V,r3⟩:=CL (us:=us) hr ⟨by simpa using K.1,λj y J=>by simpa using K.2 (j+1) y (by simpa using J)⟩;refine⟨by simp[r1],λx H=>?_,λk y J=>?_⟩
  ·rcases yn1.1 H with H|H
   ·obtain⟨N,Y⟩:=U x H;exact⟨N,by omega⟩
   ·obtain⟨N,Y⟩:=V x H;exact⟨N,by omega⟩
  ·cases k with
   |zero=>
    simp at J;subst J;refine⟨u,rfl,?_,W⟩;simp only[yw1];rw[iB];have:aG j c r.2=none:=fX λx H Z=>by have:=(V x H).2;omega
    rw[this];cases O:aG j c a.2 with
    |some v'=>rw[O]at a1;exact a1
    |none=>rw[O]at a1;exact a1
   |succ k=>
    simp only[ym1]at J;obtain⟨u',M,hn,hc⟩:=r3 k y J;refine⟨u',by simpa using M,?_,hc⟩;have:aG j (c+(k+1)) a.2=none:=fX λx H Z=>by have:=(U x H).2;omega
    simp only;rw[iB,this,show c+(k+1)=c+1+k by omega];exact hn
theorem Et{t:TypeId}{cs:List PV}{p:PV}(h:wQ P t cs=some p)(hc: ∀(k:Nat) (y:PV),cs[k]?=some y->y.cells= [y]):p.cells=cs:=by
 unfold wQ at h;split at h
 ·obtain rfl:=ya h;rfl
 ·split at h
  ·rename_i c _;obtain rfl:=ya h;exact hc 0 _ rfl
  ·cases h
 ·cases h
structure J4 (G:Gh) (w:World) (e j n:Nat) (us:List Value) (q:List PV×List (Nat×Nat×AV)):Prop where
 len:q.1.length=n
 ix: ∀x∈q.2,j≤x.1/\x.1<j+n
 size: ∀x∈q.1,x.cells.length=e
 cell: ∀(k c:Nat) (p y:PV),q.1[k]?=some p->p.cells[c]?=some y->∃u,us[k*e+c]?=some u/\nO G w (aG (j+k) c q.2) y u
theorem oW{G:Gh}{w:World}{t:TypeId}{ls:List LK}{e:Nat}(O:ls.length=e): ∀{K:List (List AV)} {j:Nat} {q:List PV×List (Nat×Nat×AV)} {us:List Value},Fw P t ls K j=some q->
  (∀(k:Nat) (cs:List AV),K[k]?=some cs->iW G w cs ((us.drop (k*e)).take e))->J4 G w e j K.length us q
 | [],j,q,us,h,W=>by
  obtain rfl:=ya h;exact⟨rfl,λx H=>(nomatch H),λx H=>(nomatch H),λk c p y V=>by simp at V⟩
 |cs::K,j,q,us,h,W=>by
  simp only[Fw]at h;rw[bind_some]at h;obtain⟨a,ha,h⟩:=h;rw[bind_some]at h;obtain⟨p,V,h⟩:=h;obtain⟨r,hr,rfl⟩:=ye.1 h;have h0:=W 0 cs rfl;simp only[yr3,yp2]at h0;obtain⟨a1,a2,a3⟩:=CL ha h0;have U:=Et V (λk y M=>by obtain⟨_,_,_,h⟩:=a3 k y M;exact h);have Y:cs.length=e:=by
   have: ∀{ls:List LK} {vs:List AV} {c:Nat} {q:List PV×List (Nat×Nat×AV)},QE ls vs j c=some q->ls.length=vs.length:=by
    intro ls
    induction ls with
    |nil=>intro vs c q h;cases vs with|nil=>rfl|cons v vs=>simp[QE]at h
    |cons l ls ih=>
     intro vs c q h;cases vs with
     |nil=>simp[QE]at h
     |cons v vs=>
      simp only[QE]at h;rw[bind_some]at h;obtain⟨_,_,h⟩:=h;obtain⟨r,hr,_⟩:=ye.1 h;simp[ih hr]
   rw[<-this ha,O]
  obtain⟨r1,r2,r3,r4⟩:=oW O (us:=us.drop e) hr (λk cs hk=>by
   have:=W (k+1) cs (by simpa using hk)
   rw[List.drop_drop,show e+k*e=(k+1)*e by rw[yt1];omega];exact this)
  refine⟨by simp[r1],λx H=>?_,λx H=>?_,λk c p' y J M=>?_⟩
  ·rcases yn1.1 H with H|H
   ·have:=(a2 x H).1;simp;omega
   ·have:=r2 x H;simp;omega
  ·rcases yj1.1 H with rfl|H
   ·rw[U,a1,Y]
   ·exact r3 x H
  ·cases k with
   |zero=>
    simp at J;subst J;rw[U]at M;obtain⟨u,N,hn,_⟩:=a3 c y M;have Z:c<e:=by have:=(yd.1 M).1;omega
    rw[ys1,if_pos Z]at N;refine⟨u,by simpa using N,?_⟩;simp only[yw1];rw[iB];have:aG j c r.2=none:=fX λx H hh=>by have:=(r2 x H).1;omega
    rw[this];rw[yc1]at hn;cases ho:aG j c a.2 with
    |some v'=>rw[ho]at hn;exact hn
    |none=>rw[ho]at hn;exact hn
   |succ k=>
    simp only[ym1]at J;obtain⟨u,N,hn⟩:=r4 k c p' y J M;rw[ye1]at N;refine⟨u,by rw[<-N];congr 1;rw[yt1];omega,?_⟩;have:aG (j+(k+1)) c a.2=none:=fX λx H hh=>by have:=(a2 x H).1;omega
    simp only;rw[iB,this,show j+(k+1)=j+1+k by omega];exact hn
def Rc(G:Gh)(w:World)(mem:aK)(b e:Nat)(Bold:Option Nat)(xs0:List PV)(hs:List (Nat×Nat×AV))(vs0:List Value):Prop:=
 ∀(i:Nat) (x:PV) (c:Nat) (y:PV),xs0[i]?=some x->x.cells[c]?=some y->∃v,vs0[i*e+c]?=some v/\v.oneCell'=true/\
  ((∃ a, aG i c hs = some a ∧ VR G w a v) ∨ (aG i c hs = none ∧ OR G w y v ∧ ∀ X a' n cap, (∃ row, cW y = some row) → v = .slice (some ⟨X, a', none⟩) n cap →
   (∃ (x : bK) (B : Nat), mem[b]? = some (some x) ∧ eT G b x B ∧ cN w B x.row i c X) ∧ Bold ≠ some X))
theorem Fj{n:Nat}: ∀{hs:List (Nat×Nat×AV)},mC n hs=true->∀h∈hs,h.1<n
 | [],_,h,J=>by cases J
 |(i,c,v)::r,h,x,H=>by
  simp only[mC,yc]at h;rcases yj1.1 H with rfl|H
  ·have:=h.1;simp[Nat.blt]at this;exact this
  ·exact Fj h.2 x H
theorem oF{G:Gh}{w:World}{mem:aK}{b g' e n:Nat}{Bold:Option Nat}{xs0:List PV}{hs:List (Nat×Nat×AV)}{vs0 us:List Value}{q:List PV×List (Nat×Nat×AV)}(hM:aH G w mem)(hno:G.loc b g'=none)
  (V:mC xs0.length hs=true) (hsz: ∀x∈xs0,x.cells.length=e) (hv0:vs0.length=xs0.length*e) (Z:Rc G w mem b e Bold xs0 hs vs0) (H:J4 G w e xs0.length n us q) (h1: ∀u∈us,u.oneCell'=true):
  wU G w mem b g' (.own e (xs0++q.1) (hs++q.2)) Bold (vs0++us):=by
 have V:=Fj V;have hoL: ∀i c,i<xs0.length->aG i c (hs++q.2)=aG i c hs:=by
  intro i c W;rw[iB];have:aG i c q.2=none:=fX λx K hh=>by have:=(H.ix x K).1;omega
  rw[this];cases aG i c hs<;>rfl
 have hoR: ∀k c,aG (xs0.length+k) c (hs++q.2)=aG (xs0.length+k) c q.2:=by
  intro k c;rw[iB];have:aG (xs0.length+k) c hs=none:=fX λx K hh=>by have:=V x K;omega
  rw[this]
 have N: ∀{i:Nat} {x:PV},(xs0++q.1)[i]?=some x->(i<xs0.length/\xs0[i]?=some x)\/(∃k,i=xs0.length+k/\q.1[k]?=some x):=by
  intro i x h;by_cases W:i<xs0.length
  ·rw[yq W]at h;exact .inl ⟨W,h⟩
  ·rw[yx (by omega)]at h;exact .inr ⟨i-xs0.length,by omega,h⟩
 have hsz2: ∀x∈xs0++q.1,x.cells.length=e:=λx K=>(yn1.1 K).elim (hsz x) (H.size x);have hL: ∀{i c:Nat} {x y:PV} {v:Value},xs0[i]?=some x->x.cells[c]?=some y->vs0[i*e+c]?=some v->(vs0++us)[i*e+c]?=some v:=λ_ _ hv=>by rw[yq (yd.1 hv).1];exact hv
 have hR: ∀{k c:Nat} {u:Value},us[k*e+c]?=some u->(vs0++us)[(xs0.length+k)*e+c]?=some u:=by
  intro k c u hu;rw[yx (by rw[hv0,yt1];omega),hv0,show(xs0.length+k)*e+c-xs0.length*e=k*e+c by rw[yt1];omega];exact hu
 refine⟨λw1 B' a' ha' hev hsame U=>?_,λw1 B' a' i c X ha' U W=>?_⟩<;>obtain rfl:=ha' rfl<;>simp only[yc1]at U
 ·generalize hL':(⟨some B',(aZ.own e (xs0++q.1) (hs++q.2)).e,(aZ.own e (xs0++q.1) (hs++q.2)).len,0⟩:Ff)=L;have hg:c5 G (G.put b g' L):=c5.put (.inl hno);refine⟨λh hh=>?_,hsz2,λi x c y K hy=>?_⟩
  ·rw[yi,H.len];rcases yn1.1 hh with hh|hh
   ·have:=V h hh;omega
   ·exact(H.ix h hh).2
  ·rcases N K with ⟨W,K⟩|⟨k,rfl,hx'⟩
   ·obtain⟨v,hv,hv1,O⟩:=Z i x c y K hy;refine⟨v,U _ _ (hL K hy hv),hv1,?_⟩;rw[hoL i c W];rcases O with ⟨a,Y,ha⟩|⟨Y,O,hin⟩
    ·rw[Y];exact ha.mono hg hev
    ·rw[Y];refine OR.mono hg hev O λX a' m cap M hvv=>?_;obtain⟨⟨z,C,hz,hC,hiz⟩,hne⟩:=hin X a' m cap M hvv;obtain⟨_,k2,_,k4⟩:=hM.inn hz hC hiz;exact⟨.of (hsame X k2 hne),k4⟩
   ·obtain⟨u,hu,hn⟩:=H.cell k c x y hx' hy;refine⟨u,U _ _ (hR hu),h1 u (yk hu),?_⟩;rw[hoR];exact hn.hr hg hev
 ·obtain⟨⟨x,y,row,K,hy,M⟩,Y,a',m,cap,J⟩:=W;rcases N K with ⟨W,K⟩|⟨k,rfl,hx'⟩
  ·obtain⟨v,hv,hv1,O⟩:=Z i x c y K hy;rw[U _ _ (hL K hy hv)]at J;rw[hoL i c W]at Y;rcases O with ⟨a,ho',ha⟩|⟨_,O,hin⟩
   ·rw[Y]at ho';cases ho'
   ·exact(hin X a' m cap ⟨row,M⟩ (ya J)).1
  ·obtain⟨u,hu,hn⟩:=H.cell k c x y hx' hy;rw[U _ _ (hR hu)]at J;rw[hoR]at Y;rw[Y]at hn;exact absurd (ya J) (hn.out M)
theorem Pj{G:Gh}{w:World}{mem:aK}{b:Nat}{M:bK}{B e n:Nat}{xs:List PV}{hs:List (Nat×Nat×AV)}(hM:aH G w mem)(O:mem[b]?=some (some M))(J:M.row= .own e xs hs)(hB:eT G b M B)(he:1≤e)(hn:n≤xs.length):
  ∃vs0:List Value,vs0.length=n*e/\Rc G w mem b e (some B) (xs.take n) hs vs0/\(∀j u,vs0[j]?=some u->cl w B j=some u)/\∀x∈xs.take n,x.cells.length=e:=by
 obtain⟨a0,hl,ha0,hmi,hlt,hfr,hr,hpr⟩:=hM.blk O hB;obtain rfl:=ha0 (by rw[J];rfl);rw[J]at hr;obtain⟨r1,r2,r3⟩:=hr;have hce: ∀{i c:Nat} {x y:PV},xs[i]?=some x->x.cells[c]?=some y->c<e:=λK V=>by rw[<-r2 _ (yk K)];exact(yd.1 V).1
 refine⟨(List.range (n*e)).map (λj=>(cl w B j).getD undef),by simp,λi x c y K V=>?_,λj u U=>?_,λx O=>r2 x (yf3 O)⟩
 ·have N:i<n:=by have:=(yd.1 K).1;simp at this;omega
  rw[ys1,if_pos N]at K;obtain⟨v,W,hv1,Z⟩:=r3 i x c y K V;refine⟨v,by simp[Df (hce K V) N,W],hv1,?_⟩;cases ho:aG i c hs with
  |some a=>rw[ho]at Z;exact .inl ⟨a,rfl,Z⟩
  |none=>
   rw[ho]at Z;refine .inr ⟨rfl,Z,λX a' m cap H hvv=>?_⟩;obtain⟨Y,H⟩:=H;have N:cN w B M.row i c X:=by rw[J];exact⟨⟨x,y,Y,K,V,H⟩,ho,a',m,cap,by rw[W,hvv]⟩
   exact⟨⟨M,B,O,hB,N⟩,λh=>by
    obtain rfl:=ya h
    exact hM.inA b b M M _ i c _ O hB N O hB⟩
 ·have hj:j<n*e:=by have:=(yd.1 U).1;simpa using this
  simp[hj]at U;have N:j/e<n:=by rw[Nat.div_lt_iff_lt_mul (by omega)];exact hj
  have hc:j%e<(xs[j/e]'(by omega)).cells.length:=by rw[r2 _ (yk2 _)];exact Nat.mod_lt _ (by omega)
  obtain⟨v,W,_⟩:=r3 (j/e) _ (j%e) _ (yf (by omega)) (yf hc);rw[show j/e*e+j%e=j by rw[yx2];exact Nat.div_add_mod j e]at W;rw[W]at U⊢
  simp at U;rw[U]
end
end Go.Ab
end
section
namespace Go.Ab
variable [cF]
theorem iW.chunks{G:Gh}{w:World}{cs:List AV}{us:List Value}(h:iW G w cs us){e n k:Nat}{c:List AV}(M:(chunks e n cs)[k]?=some c):iW G w c ((us.drop (k*e)).take e):=by
 have K:k<n:=by have:=(yd.1 M).1;rwa[gH]at this
 rw[AY K]at M;obtain rfl:=ya M;refine⟨by simp[h.1],λj y J=>?_⟩;have H:j<e:=by have:=(yd.1 J).1;simp at this;omega
 rw[ys1,if_pos H,ye1]at J;have hj:=(yd.1 J).1;have:=h.2 _ y J;rw[ym,ys1,if_pos H,ye1,<-ym];exact this
theorem bL.avs{G:Gh}{w:World}{e:Nat}{cs:List AV}{us:List Value}(h:bL G w (.avs e cs) us):iW G w cs us/\us.length=aR e cs.length*e/\∀u∈us,u.oneCell'=true:=by
 obtain⟨H,U,K,M⟩:=h;refine⟨⟨by rw[H];show cs.length=aR e cs.length*e;rw[yx2];exact K,λj y N=>?_⟩,H,U⟩;obtain⟨u,J,O⟩:=M j y N;rw[ym,J];exact O
theorem Lh{G:Gh}{w:World}{mem:aK}{b:Nat}{row:aZ}{vs:List Value}{t:TypeId}(hM:aH G w mem)(N:mem[b]?=some none)(Y:1≤row.e)(M:wU G w mem b 0 row none vs):
  ∃O,c5 G O/\Ev G w (w.alloc (.cells vs.toArray t))/\aH O (w.alloc (.cells vs.toArray t)) (mem.set b (some {gen:=0,frz:=false,row}))/\O.loc b 0=some ⟨some w.heap.size,row.e,row.len,0⟩/\
   ∀j u,vs[j]?=some u->cl (w.alloc (.cells vs.toArray t)) w.heap.size j=some u:=by
 have U:G.loc b 0=none:=hM.unset b 0 (λx K=>by rw[N]at K;cases K);have Z:c5 G (G.put b 0 ⟨some w.heap.size,row.e,row.len,0⟩):=c5.put (.inl U);have J:=Ev.alloc G w (.cells vs.toArray t) hM.away;have H: ∀j u,vs[j]?=some u->cl (w.alloc (.cells vs.toArray t)) w.heap.size j=some u:=λj u V=>by rw[kP];simpa using V
 refine⟨_,Z,J,hM.make N Y (M.row _ _ 0 (λ_=>rfl) J (λX hX _=>fH hX) (by simp only[yc1];exact H)) (λi c B' W=>?_),Gh.put_self ..,H⟩;obtain⟨x,_,K,_⟩:=M.inn _ _ 0 i c B' (λ_=>rfl) (by simp only[yc1];exact H) W;rw[N]at K;cases K
section
variable {P:Program} {G:Gh} {w:World} {mem:aK} {o:Oper} {a:Act} {out:dI}
theorem Ig{own:Bool}{t tx ty:TypeId}{rs:Nat}{x y:AV}{cx cy:Value}(hM:aH G w mem)(hrs:mem[rs]?=some none)
  (h:nD P own t tx mem rs x y=some out) (Z:VR G w x cx) (hy:VR G w y cy):
  ∃G' w1 cv,(Builtin.append_ #[t,tx] ty #[cx,cy]).run P w= .ok cv w1/\VR G' w1 out.v cv/\c5 G G'/\Ev G w w1/\aH G' w1 (out.apply mem):=by
 unfold nD at h;rw[bind_some]at h;obtain⟨et,het,h⟩:=h;rw[bind_some]at h;obtain⟨s,hs,h⟩:=h;rw[bind_some]at h;obtain⟨bytes,hby,h⟩:=h;rw[bind_some]at h;obtain⟨z,hz,h⟩:=h;rw[bind_some]at h;obtain⟨ls,hls,h⟩:=h;rw[bind_some]at h;obtain⟨yv,hyv,h⟩:=h;obtain⟨yv1,yrd⟩:=yv;simp only at h;split at h
 ·rename_i e cs;rw[aA]at h;obtain⟨W,h⟩:=h;simp only[yc]at W;obtain⟨⟨⟨⟨⟨⟨g1,g2⟩,g3⟩,g4⟩,g5⟩,g6⟩,g7⟩:=W;obtain rfl:=bN.1 g1;have g3:=cO.1 g3;have g4:=cO.1 g4;have g5:=bN.1 g5;have g6:=bN.1 g6;obtain⟨i,zv0,hE⟩:=I3 het hs hby hz g3 g4 g5;obtain⟨news,V,hnews⟩:=A5 hM hyv hy hs g2;obtain⟨hL,hnl,M⟩:=hnews.avs;have hch: ∀(k:Nat) (c:List AV),(chunks s (aR s cs.length) cs)[k]?=some c->iW G w c ((news.drop (k*s)).take s):=λk c hk=>hL.chunks hk;split at h
  ·obtain rfl:=Z.lit_inv;rw[aA]at h;obtain⟨_,h⟩:=h;rw[bind_some]at h;obtain⟨q,hq,h⟩:=h;rw[aA]at h;obtain⟨hml,h⟩:=h;simp only[yc]at hml;obtain rfl:=ya h;have H:=oW g6 hq hch;rw[gH]at H;have U: ∀g,0≤g->G.loc rs g=none:=λg _=>hM.unset rs g (λx Z=>by rw[hrs]at Z;cases Z);have K:=oF (Bold:=none) (xs0:= []) (hs:= []) (vs0:= []) hM (U 0 (ya1 _)) rfl (λx Z=>by cases Z) (by simp) (λi x c y h1=>by simp at h1) H M;simp only[yv3]at K;rw[dO];exact mG hM (yd.1 hrs).1 U hE V (by have:=cO.1 hml.2;rw[H.len]at this;exact this) rfl H.len K (λ_=>rfl)
  ·rename_i b g;rw[bind_some]at h;obtain⟨bx,hbx,h⟩:=h;obtain⟨hm,hge,hown⟩:=boxO?_some hbx;subst hge;split at h
   ·rename_i e' xs hs' J;rw[bind_some]at h;obtain⟨q,hq,h⟩:=h;rw[aA]at h;obtain⟨W,h⟩:=h;simp only[yc,yw]at W;obtain⟨⟨⟨c1,c2⟩,c3⟩,Y⟩:=W;obtain rfl:=bN.1 c2;have Y:=cO.1 Y;obtain rfl:=ya h;have H:=oW g6 hq hch;rw[gH]at H;rw[dO];have U:=λg W=>hM.gens b bx g hm W;have N:(xs++q.1).length=xs.length+aR s cs.length:=by rw[yi,H.len]
    cases Z with
    |msw _ _ cap L B hl hb hn hf=>
     have hB:eT G b bx B:=⟨L,hl,hb⟩
     obtain⟨a0,O,ha0,_⟩:=hM.blk hm hB;have hLL:=hl;rw[O]at hLL;obtain rfl:=ya hLL;obtain rfl:=ha0 (by rw[J];rfl);obtain⟨vs0,v1,v2,v3,v4⟩:=Pj hM hm J hB g4 (ya1 _);rw[yq3]at v2 v4;have K:=oF (g':=bx.gen+1) hM (U _ (yy2 _)) c3 v4 v1 v2 H M;rw[J]at hn hf⊢
     exact AW (row':= .own s (xs++q.1) (hs'++q.2)) hM hm O (λ_=>rfl) c1 hE v1 (by simp only[yc1];exact v3) hn hf V rfl N K Y
    |mswNil _ _ L hl hb hn=>
     obtain⟨oo,a0,O,ha0,hmm⟩:=(hM.box b bx hm).loc;rw[hl]at O;obtain rfl:=ya O;rw[J]at hn;have hx0:xs= []:=yu hn;subst hx0;have K:=oF (g':=bx.gen+1) (Bold:=none) (xs0:= []) (vs0:= []) hM (U _ (yy2 _)) c3 (λx Z=>by cases Z) (by simp) (λi x c y h1=>by simp at h1) H M;simp only[yv3]at K N Y;exact mG (row':= .own s (q.1) (hs'++q.2)) hM (yd.1 hm).1 (λg W=>U g W) hE V (by rw[H.len]at Y;exact Y) rfl H.len K (λ_=>rfl)
   ·cases h
  ·rename_i b g n;rw[bind_some]at h;obtain⟨bx,hbx,h⟩:=h;obtain⟨hm,hge,hown⟩:=boxO?_some hbx;subst hge;split at h
   ·rename_i e' xs hs' J;rw[bind_some]at h;obtain⟨q,hq,h⟩:=h;rw[aA]at h;obtain⟨W,h⟩:=h;simp only[yc,yw]at W;obtain⟨⟨⟨⟨c1,c2⟩,c0⟩,c3⟩,Y⟩:=W;obtain rfl:=bN.1 c2;have Y:=cO.1 Y;have c0:=cO.1 c0;obtain rfl:=ya h;have H:=oW g6 hq hch;rw[gH]at H;rw[dO];have U:=λg W=>hM.gens b bx g hm W;have htl:(xs.take n).length=n:=by simp;omega
    have N:(xs.take n++q.1).length=n+aR s cs.length:=by rw[yi,H.len,htl]
    cases Z with
    |ms _ _ _ _ cap L B hl hb hn hon hf=>
     have hB:eT G b bx B:=⟨L,hl,hb⟩
     obtain⟨a0,O,ha0,_⟩:=hM.blk hm hB;have hLL:=hl;rw[O]at hLL;obtain rfl:=ya hLL;obtain rfl:=ha0 (by rw[J];rfl);obtain⟨vs0,v1,v2,v3,v4⟩:=Pj hM hm J hB g4 c0;have K:=oF (g':=bx.gen+1) hM (U _ (yy2 _)) (by rw[htl];exact c3) v4 (by rw[htl];exact v1) v2 (by rw[htl];exact H) M;simp only[yc1]at hf;rw[J]at hf;simp only[yr3];exact AW (row':= .own s (xs.take n++q.1) (hs'++q.2)) hM hm O (λ_=>rfl) c1 hE v1 (by simp only[yc1];exact v3) hn (by rw[yc1];exact hf) V rfl N K Y
    |msNil _ _ L hl hb=>
     obtain⟨oo,a0,O,ha0,hmm⟩:=(hM.box b bx hm).loc;rw[hl]at O;obtain rfl:=ya O;simp only[yi4,yv3]at N Y hq⊢
     have K:=oF (g':=bx.gen+1) (Bold:=none) (xs0:= []) (vs0:= []) hM (U _ (yy2 _)) c3 (λx Z=>by cases Z) (by simp) (λi x c y h1=>by simp at h1) H M;simp only[yv3]at K;exact mG (row':= .own s (q.1) (hs'++q.2)) hM (yd.1 hm).1 (λg W=>U g W) hE V (by rw[H.len]at Y;exact Y) rfl H.len K (λ_=>rfl)
    |msZ _ _ _ B oo L hl hb ho hon=>omega
   ·cases h
  ·cases h
 ·cases h
theorem Eb{t:TypeId}{rs:Nat}{x:Operand}(hM:aH G w mem)(hm:mem[rs]?=some none)(O:x= .const (.slice none 0 0))(M:execOp a.eval o=pure (Next.value (a.eval x)))(h:Iv P t rs=some out):qF P G w mem o a out:=by
 unfold Iv at h;rw[bind_some]at h;obtain⟨et,N,h⟩:=h;rw[bind_some]at h;obtain⟨e,V,h⟩:=h;rw[aA]at h;obtain⟨J,h⟩:=h;obtain rfl:=ya h;have J:=cO.1 J;subst O;obtain⟨W,U,Y,H⟩:=C8 (b:=rs) (g':=0) (row':= .own e [] []) hM (yd.1 hm).1 (λg _=>hM.unset rs g (λy K=>by rw[hm]at K;cases K)) J rfl rfl;refine lC.opW ⟨W,w,.value (a.eval (.const (.slice none 0 0))),_,by rw[M];simp,.inl rfl,?_,U,Ev.refl G w,by simpa[dI.apply,aN]using H⟩;exact .mswNil rs 0 _ Y rfl rfl
theorem Lt{ρ:Operand->Option AV}{rs:Nat}{t:TypeId}{l c:Operand}(hM:aH G w mem)(hrs:mem[rs]?=some none)(hρ:Rw G w ρ a)(h:Jj P ρ mem rs t l c=some out):
  ∃Z w' cv,(Instr.makeSlice t (a.eval l) (a.eval c)).run P w= .ok cv w'/\VR Z w' out.v cv/\c5 G Z/\Ev G w w'/\aH Z w' (out.apply mem):=by
 unfold Jj at h;rw[bind_some]at h;obtain⟨et,het,h⟩:=h;rw[bind_some]at h;obtain⟨z,hz,h⟩:=h;rw[bind_some]at h;obtain⟨vl,hl,h⟩:=h;rw[bind_some]at h;obtain⟨vc,hc,h⟩:=h;rw[bind_some]at h;obtain⟨ls,hls,h⟩:=h;split at h
 ·rename_i k1 n k2 n';rw[aA]at h;obtain⟨hg,h⟩:=h;simp only[yc,beq_iff_eq,decide_eq_true_eq]at hg;obtain⟨⟨hnn,hn0⟩,J⟩:=hg;subst hnn;have J:=cO.1 J;rw[bind_some]at h;obtain⟨q,hq,h⟩:=h;rw[bind_some]at h;obtain⟨p,hp,h⟩:=h;rw[bind_some]at h;obtain⟨e,he,h⟩:=h;rw[bind_some]at h;obtain⟨bytes,O,h⟩:=h;rw[aA]at h;obtain⟨hg,h⟩:=h;simp only[yc]at hg;obtain⟨⟨⟨⟨g1,g2⟩,g3⟩,g5⟩,g4⟩:=hg;have g1:=cO.1 g1;have g2:=cO.1 g2;have g3:=bN.1 g3;have g4:q.2= []:=by cases hh:q.2 with|nil=>rfl|cons _ _=>rw[hh]at g4;cases g4
  obtain⟨i,H,hi,hzv,hov⟩:=lQ hz;have V:VR G w z H:=mR hov;have el:=(hρ _ _ hl).lit_inv;have ec:=(hρ _ _ hc).lit_inv;obtain⟨m,rfl⟩: ∃m:Nat,n=(m:Int):=⟨n.toNat,by omega⟩
  rw[yy]at J h;obtain rfl:=ya h;have his:i.size=e:=by unfold jR at he;rw[hi]at he;simpa using he
  have hib:i.bytes≤4096:=by unfold kT at O;rw[hi]at O;simp at O;omega
  have W:H.cells.size=e:=by rw[<-g3];simpa using V.cells.1.symm
  obtain⟨a1,a2,a3⟩:=CL hq V.cells;have hpc:=Et hp (λk y hy=>by obtain⟨_,_,_,h⟩:=a3 k y hy;exact h);have hno:G.loc rs 0=none:=hM.unset rs 0 (λx N=>by rw[hrs]at N;cases N);have hfl: ∀k c,k<m->c<e->(flat (List.replicate m H))[k*e+c]?=H.cells.toList[c]?:=λk c Y hc=>rG (λu M=>by rw[(yw2.1 M).2];exact W) (by rw[yu1,if_pos Y]) hc;have hone: ∀u∈flat (List.replicate m H),u.oneCell'=true:=by
   intro u M;obtain⟨z',hz',M⟩:=La M;rw[(yw2.1 hz').2]at M;obtain⟨j,hj,rfl⟩:=yx1 M;exact V.cells.ones g5 _ (yk2 hj)
  have hne:J4 G w e ([]:List PV).length m (flat (List.replicate m H)) (List.replicate m p,[]):=by
   refine⟨by simp,λx N=>(nomatch N),λx N=>?_,λk c p' y U hy=>?_⟩
   ·rw[(yw2.1 N).2,hpc,a1,g3]
   ·have Y:k<m:=by have:=(yd.1 U).1;simpa using this
    simp only[yu1,if_pos Y,Option.some.injEq]at U;subst U;rw[hpc]at hy;obtain⟨u,M,hn,_⟩:=a3 c y hy;have hce:c<e:=by rw[<-g3,<-a1];exact(yd.1 hy).1
    rw[g4]at hn;exact⟨u,by rw[hfl k c Y hce];exact M,hn⟩
  have hok:=oF (Bold:=none) (xs0:= []) (hs:= []) (vs0:= []) hM hno rfl (λx N=>by cases N) (by simp) (λi x c y h1=>by simp at h1) hne hone;simp only[yv3]at hok;obtain⟨Z,hg',hev,hM',hl',hcl⟩:=Lh (t:=et) (row:= .own e (List.replicate m p) []) hM hrs g1 hok;have hfit:=yR J hib
  have K:=run_make (P:=P) w t et i H (oR het) hi hzv k1 k2 m m (by omega) (Int.le_refl _) (by
    have h:((m*i.bytes:Nat):Int)≤281474976710656:=by omega
    rw[Int.natCast_mul,Int.mul_comm]at h;exact h) (by unfold bJ at J;omega)
  simp only[yy]at K;have hc':madeCells H.cells (m*i.size)=(flat (List.replicate m H)).toArray:=by
   have:=jW H.cells (by omega) m;rw[<-yv2 (xs:=madeCells H.cells (m*i.size)),fQ,<-this,his];simp only[madeCells,W]
  rw[hc']at K;rw[el,ec];refine⟨Z,_,_,K,?_,hg',hev,by rw[dO];exact hM'⟩;have Y:VR Z (w.alloc (.cells (flat (List.replicate m H)).toArray et)) (.msw rs 0) (.slice (some ⟨w.heap.size,0,none⟩) (aZ.own e (List.replicate m p) []).len m):=by
   refine .msw rs 0 m _ w.heap.size hl' rfl (by simp[aZ.len]) (λj hj=>?_);simp only[aZ.e]at hj;have hj2:j<(flat (List.replicate m H)).length:=by rw[iC (e:=e) (λu M=>by rw[(yw2.1 M).2];exact W)];simpa using hj
   rw[hcl j _ (yf hj2)];rfl
  simpa[aZ.len]using Y
 ·cases h
theorem JX{ρ:Operand->Option AV}{rs:Nat}{t:TypeId}{len:Nat}{J:Array (Nat×Operand)}(hM:aH G w mem)(hrs:mem[rs]?=some none)(hρ:Rw G w ρ a)(h:CA P ρ mem rs t len J=some out):
  ∃G' w' cv,(Instr.buildSlice t len (J.map λp=>(p.1,a.eval p.2))).run P w= .ok cv w'/\VR G' w' out.v cv/\c5 G G'/\Ev G w w'/\aH G' w' (out.apply mem):=by
 unfold CA at h;rw[bind_some]at h;obtain⟨et,het,h⟩:=h;rw[bind_some]at h;obtain⟨z,hz,h⟩:=h;rw[bind_some]at h;obtain⟨s,hs,h⟩:=h;rw[bind_some]at h;obtain⟨ps,hps,h⟩:=h;rw[bind_some]at h;obtain⟨ls,hls,h⟩:=h;rw[aA]at h;obtain⟨hg,h⟩:=h;rw[bind_some]at h;obtain⟨q,hq,h⟩:=h;rw[aA]at h;obtain⟨N,h⟩:=h;obtain rfl:=ya h;simp only[yc]at hg;obtain⟨⟨⟨⟨⟨⟨g1,g2⟩,g3⟩,g4⟩,g5⟩,g6⟩,g7⟩:=hg;have g2:=cO.1 g2;have g3:=cO.1 g3;have g4:=cO.1 g4;have g6:=bN.1 g6;have g7:=cO.1 g7;have hp:=A2 hρ hps;generalize (J.map λp=>(p.1,a.eval p.2))=qs at hp⊢
 have hu:=oR het;obtain⟨i,H,hi,hzv,hov⟩:=lQ hz;have M:i.size=s:=by unfold jR at hs;rw[hi]at hs;simpa using hs
 have hzr:VR G w z H:=mR hov;have hsz:=w8 g5;have Y:H.cells.size=s:=by rw[<-hsz z (yn ..)];simpa using hzr.cells.1.symm
 have hL0:iW G w (List.replicate len z) (List.replicate len H):=by
  refine⟨by simp,λj y hy=>?_⟩;obtain⟨Z,rfl⟩:j<len/\z=y:=by
   have h1:=(yd.1 hy)
   obtain⟨h1,h2⟩:=h1;simp at h1 h2;exact⟨h1,h2⟩
  rw[ym,yu1,if_pos Z];exact hzr
 have hL:=A1 hL0 hp;have hqs: ∀q∈qs.toList,q.2.cells.size=s/\q.1<(List.replicate len H).length:=by
  intro q hq;obtain⟨j,Z,rfl⟩:=yx1 hq;have K:j<ps.length:=by rw[hp.1];exact Z
  obtain⟨v,hv,U⟩:=hp.2 j _ (yf K);rw[yf Z]at hv;have hqe:=ya hv;rw[hqe];refine⟨?_,by simp only[yj3];exact vW g1 _ (yk2 K)⟩;rw[<-hsz (ps[j].2) (yj _ (yh3.2 ⟨_,yk2 K,rfl⟩))];simpa using U.cells.1.symm
 have hz1: ∀u∈List.replicate len H,u.cells.size=s:=λu hu=>by rw[(yw2.1 hu).2];exact Y
 have V:=qA hz1 (λq h=>(hqs q h).1);have hlen:(nZ (List.replicate len z) ps).length=len:=by rw[qG];simp
 have hone: ∀u∈flat (fW (List.replicate len H) qs.toList),u.oneCell'=true:=(sB hL).ones N;have W:J4 G w s ([]:List PV).length len (flat (fW (List.replicate len H) qs.toList)) q:=by
  have:=oW g6 hq (us:=flat (fW (List.replicate len H) qs.toList)) (λk cs hk=>by
   rw[yg1]at hk;obtain⟨v,hv,rfl⟩:=ye.1 hk;obtain⟨u,hu,U⟩:=hL.get hv;have:((flat (fW (List.replicate len H) qs.toList)).drop (k*s)).take s=u.cells.toList:=by
    have hcs:=V u (yk hu);apply List.ext_getElem?;intro c;rw[ys1];by_cases hc:c<s
    ·rw[if_pos hc,ye1,rG V hu hc]
    ·rw[if_neg hc,yd1 (by simp[hcs];omega)]
   rw[this];exact U.cells)
  rw[yk1,hlen]at this;exact this
 have hno:G.loc rs 0=none:=hM.unset rs 0 (λx hx=>by rw[hrs]at hx;cases hx);have hok:=oF (Bold:=none) (xs0:= []) (hs:= []) (vs0:= []) hM hno rfl (λx hx=>by cases hx) (by simp) (λi x c y h1=>by simp at h1) W hone;simp only[yv3]at hok;obtain⟨G',hg',hev,hM',hl',hcl⟩:=Lh (t:=et) (row:= .own s q.1 q.2) hM hrs g3 hok;have hlt:len*s≤16777216:=yq2 (Nat.mul_le_mul g2 g4) (by decide);have hpos:0<len*s:=Nat.mul_pos (by omega) (by omega)
 have hc0:((Array.range (len*i.size)).map (H.cells[· %H.cells.size]!)).toList=flat (List.replicate len H):=by
  rw[M,fQ];have:=jW H.cells (by omega) len;rw[Y]at this;rw[Y];exact this
 obtain⟨c',hf,hc'⟩:=Cu hc0 hz1 hqs;have O:c'=(flat (fW (List.replicate len H) qs.toList)).toArray:=by rw[<-hc']
 refine⟨G',_,_,run_buildSlice w t et len qs c' i H hu hi hzv (by rw[M];omega) (by rw[M];omega) (by rw[M]at hf⊢;exact hf),?_,hg',by rw[O];exact hev,by rw[dO,O];exact hM'⟩;rw[O];have hk:VR G' (w.alloc (.cells (flat (fW (List.replicate len H) qs.toList)).toArray et)) (.msw rs 0) (.slice (some ⟨w.heap.size,0,none⟩) (aZ.own s q.1 q.2).len len):=by
  refine .msw rs 0 len _ w.heap.size hl' rfl (by simp only[aZ.len];rw[W.len];exact ya1 _) (λj Z=>?_);simp only[aZ.e]at Z;have K:j<(flat (fW (List.replicate len H) qs.toList)).length:=by rw[iC (e:=s) V,wJ];simpa using Z
  rw[hcl j _ (yf K)];rfl
 simp only[aZ.len]at hk;rw[W.len]at hk;exact hk
theorem GF{own:Bool}{b:Builtin}{ts:Array TypeId}{ty:TypeId}{consts:Array Bool}{rs:Nat}{args:List AV}{vs:Array Value}(hM:aH G w mem)(O:b= .append->mem[rs]?=some none)
  (h:mP P own b ts.toList mem rs args=some out) (M:pY G w args vs):
  ∃s:Sem Value,builtin b ts ty consts vs=(do pure (Next.value (<-s)))/\∃U N cv,s.run P w= .ok cv N/\VR U N out.v cv/\c5 G U/\Ev G w N/\aH U N (out.apply mem):=by
 unfold mP at h;split at h
 ·rename_i t x J;have H:ts= #[t]:=by rw[<-J,yv2]
  obtain⟨x',rfl⟩:=Uf M.1.symm;have K:=M.2 0 x rfl;simp at K;subst H;obtain⟨h1,Z,n,hn,⟨e,W⟩,ad,cap,rfl⟩:=NP (ty:=ty) hM h K;exact⟨_,rfl,G,w,.int .i64 (n:Int),by simp[Builtin.len_,Builtin.lenOf,run_underlying W,goInt],by rw[hn];exact .lit _ rfl,c5.refl G,Ev.refl G w,by simpa only[dI.apply,h1,Z,aN,yo1]using hM⟩
 ·rename_i t Y x y J;have H:ts= #[t,Y]:=by rw[<-J,yv2]
  obtain⟨x',y',rfl⟩:=Ux M.1.symm;have K:=M.2 0 x rfl;have V:=M.2 1 y rfl;simp at K V;subst H;exact⟨_,rfl,Ig hM (O rfl) h K V⟩
 ·cases h
theorem QD{own tk:Bool}{ρ:Operand->Option AV}{rs:Nat}(hM:aH G w mem)(N:eE o.op=true->mem[rs]?=some none)(M:Rw G w ρ a)(J:bQ own ρ mem o.op=true)
  (h:Ic P own tk o ρ mem rs=some out):qF P G w mem o a out:=by
 unfold Ic at h;split at h
 ·rename_i x H;rw[H]at J;simp only[bQ,yc]at J;exact Eb hM (N (by rw[H];exact J.2)) (CW J.2) (by simp only[execOp,H]) h
 ·rename_i x H;rw[H]at J;simp only[bQ,yc]at J;exact Eb hM (N (by rw[H];exact J.2)) (CW J.2) (by simp only[execOp,H]) h
 ·rename_i t len parts H;exact qF.value (by simp only[execOp,H]<;>rfl) (JX hM (N (by rw[H];rfl)) M h)
 ·rename_i t l c H;exact qF.value (by simp only[execOp,H]<;>rfl) (Lt hM (N (by rw[H];rfl)) M h)
 ·rename_i t x H;rw[bind_some]at h;obtain⟨v,hv,h⟩:=h;obtain⟨G',cv,K,O,hg,V⟩:=LI hM h (M _ _ hv);exact qF.value (by simp only[execOp,H]<;>rfl) ⟨G',w,cv,K,O,hg,Ev.refl G w,V⟩
 ·rename_i t x y H;rw[bind_some]at h;obtain⟨vx,W,h⟩:=h;rw[bind_some]at h;obtain⟨vy,hy,h⟩:=h;obtain⟨hov,w',K,Y,V⟩:=JC hM h (M _ _ W) (M _ _ hy);refine lC.opW ⟨G,w',.skip,undef,?_,.inr ⟨rfl,rfl⟩,by rw[hov];exact .lit _ rfl,c5.refl G,Y,V⟩;simp only[execOp,H,Sem.run_bind,K,Result.andThen_ok,Sem.run_pure]
 ·rename_i t x lo hi mx H;rw[bind_some]at h;obtain⟨vx,W,h⟩:=h;rw[bind_some]at h;obtain⟨vl,hl,h⟩:=h;rw[bind_some]at h;obtain⟨vh,hh,h⟩:=h;rw[bind_some]at h;obtain⟨vm,hm,h⟩:=h;obtain⟨h1,Z,cv,K,O⟩:=JY hM h (M _ _ W) (nW M hl) (nW M hh) (nW M hm);exact qF.still hM (by simp only[execOp,H]<;>rfl) h1 Z K O
 ·rename_i t x ix H;rw[bind_some]at h;obtain⟨vx,W,h⟩:=h;rw[bind_some]at h;obtain⟨vi,hi,h⟩:=h;split at h
  ·rename_i k i;have ei:=(M _ _ hi).lit_inv;obtain⟨h1,Z,cv,K,O⟩:=JR (k:=k) hM h (M _ _ W);exact qF.still hM (by simp only[execOp,H]<;>rfl) h1 Z (by rw[ei];exact K) O
  ·cases h
 ·rename_i c H;rw[bind_some]at h;obtain⟨args,U,h⟩:=h;have hav:=BK M U;split at h
  ·rename_i b hc;obtain⟨s,hs,hh⟩:=GF (ty:=o.type) (consts:=c.args.map fun| .const _=>true|_=>false) hM (λhb=>N (by rw[H];subst hb;unfold eE;obtain⟨cc,_,_⟩:=c;simp only at hc;subst hc;rfl)) h hav;refine qF.value (s:=s) ?_ hh;rw[<-hs];simp only[execOp,H,resolve,hc,invoke];rfl
  ·cases h
 ·cases h
theorem QH{C:bX}{own tk boxed raw vars:Bool}{ρ:Operand->Option AV}{rs:Nat}(hM:aH G w mem)(J:eE o.op=true->mem[rs]?=some none)(O:Rw G w ρ a)
  (H: ∀{raw keep:Bool} {g:FuncId} {ts:List TypeId} {M args V:List AV} {out:dI} {N U cv:Array Value},Aq P C raw keep g ts M args V mem=some out->pY G w M N->pY G w args U->pY G w V cv->Nv P G w mem g (N++U++cv) out)
  (h:Ii P C own tk boxed raw vars o ρ mem rs=some out):qF P G w mem o a out:=by
 unfold Ii at h;cases K:bQ own ρ mem o.op with
 |true=>rw[K]at h;exact QD hM J O K h
 |false=>rw[K]at h;exact PI hM J O H h
end
end Go.Ab
end
section
namespace Go.Ab
variable [cF]
theorem fA(f:kY): ∀cs:List AV,AV.renAll f cs=cs.map (·.ren f)
 | []=>by simp[AV.renAll]
 |c::cs=>by simp[AV.renAll,fA f cs]
theorem j0: ∀{cs:List AV} {j:Nat} {y:AV},cs[j]?=some y->y.lent=true->AV.lentAny cs=true
 | [],j,y,h,_=>by simp at h
 |c::cs,0,y,h,H=>by simp at h;subst h;simp[AV.lentAny,H]
 |c::cs,j+1,y,h,H=>by simp[AV.lentAny,j0 (cs:=cs) (j:=j) (by simpa using h) H]
def Ey(G G2:Gh)(f:kY):Prop:= ∀b g q L,f b g=some q->G.loc b g=some L->G2.loc q.1 q.2=some L
theorem r7{f:kY}{cs:List AV}{j:Nat}{y:AV}(h:(AV.renAll f cs)[j]?=some y): ∃x,cs[j]?=some x/\y=x.ren f:=by
 rw[fA,yg1]at h;obtain⟨x,H,rfl⟩:=ye.1 h;exact⟨x,H,rfl⟩
theorem VR.ren{G W:Gh}{w:World}{f:kY}{l:Bool}(hr:Ey G W f)(hp: ∀β B o,(β=true->l=true)->G.prot β B o->W.prot β B o){a:AV}{v:Value}(h:VR G w a v):
  (a.lent=true->l=true)->VR W w (a.ren f) v:=by
 induction h with
 |lit v h=>intro _;simp only[AV.ren];exact .lit v h
 |imm β p v h hs=>intro H;simp only[AV.ren];exact .imm β p v (h.mono (λB o J=>hp β B o (λe=>H (by simp[AV.lent,e])) J) (λ_ _ _=>rfl)) hs
 |unkB b=>intro _;simp only[AV.ren];exact .unkB b
 |dead v h1 Z=>intro _;simp only[AV.ren];exact .dead v h1 Z
 |ptr b g i c L B H J=>
  intro _;simp only[AV.ren];split
  ·rename_i q N;exact .ptr q.1 q.2 i c L B (hr b g q L N H) J
  ·exact .dead _ rfl rfl
 |ms b g o n cap L B H J hn U hf=>
  intro _;simp only[AV.ren];split
  ·rename_i q N;exact .ms q.1 q.2 o n cap L B (hr b g q L N H) J hn U hf
  ·exact .dead _ rfl rfl
 |msNil b g L H J=>
  intro _;simp only[AV.ren];split
  ·rename_i q N;exact .msNil q.1 q.2 L (hr b g q L N H) J
  ·exact .dead _ rfl rfl
 |msZ b g o B oo L H J ho U=>
  intro _;simp only[AV.ren];split
  ·rename_i q N;exact .msZ q.1 q.2 o B oo L (hr b g q L N H) J ho U
  ·exact .dead _ rfl rfl
 |msw b g cap L B H J hn hf=>
  intro _;simp only[AV.ren];split
  ·rename_i q N;exact .msw q.1 q.2 cap L B (hr b g q L N H) J hn hf
  ·exact .dead _ rfl rfl
 |mswNil b g L H J hn=>
  intro _;simp only[AV.ren];split
  ·rename_i q N;exact .mswNil q.1 q.2 L (hr b g q L N H) J hn
  ·exact .dead _ rfl rfl
 |el β p c B o cv h hr'=>
  intro H;simp only[AV.ren];have V: ∀B o,G.prot β B o->W.prot β B o:=λB o J=>hp β B o (λe=>H (by simp[AV.lent,e])) J;exact .el β p c B o cv (λj y K=>⟨(h j y K).1,V _ _ (h j y K).2⟩) (λj y K=>(hr' j y K).mono V (λ_ _ _=>rfl))
 |fn f' fi ca fv cv h1 Z hf hc ihf Y=>
  intro H;simp only[AV.ren];refine .fn f' _ _ fv cv (by rw[fA];simpa using h1) (by rw[fA];simpa using Z) (λj y K=>?_) (λj y K=>?_)
  ·obtain⟨x,O,rfl⟩:=r7 K;exact ihf j x O (λe=>H (by simp[AV.lent,j0 O e]))
  ·obtain⟨x,O,rfl⟩:=r7 K;exact Y j x O (λe=>H (by simp[AV.lent,j0 O e]))
 |agg cs cvs M h ih=>
  intro H;simp only[AV.ren];refine .agg _ cvs (by rw[fA];simpa using M) (λj y K=>?_);obtain⟨x,O,rfl⟩:=r7 K;exact ih j x O (λe=>H (by simp[AV.lent,j0 O e]))
 |tup cs cvs M h ih=>
  intro H;simp only[AV.ren];refine .tup _ cvs (by rw[fA];simpa using M) (λj y K=>?_);obtain⟨x,O,rfl⟩:=r7 K;exact ih j x O (λe=>H (by simp[AV.lent,j0 O e]))
def sN:aZ->Bool
 | .cells _ cs=>AV.lentAny cs
 | .pvs β _ _=>β
 | .ints _ _=>false
 | .own _ _ hs=>mK hs
theorem pK: ∀{mem:aK} {b:Nat} {x:bK},mem[b]?=some (some x)->sN x.row=true->iL mem=true
 | [],b,x,h,_=>by simp at h
 |some y::m,0,x,h,H=>by
  simp at h;subst h;obtain⟨g,fz,row⟩:=y;cases row<;>simp_all[iL,sN]
 |none::m,0,x,h,H=>by simp at h
 |some y::m,b+1,x,h,H=>by simp[iL,pK (mem:=m) (b:=b) (by simpa using h) H]
 |none::m,b+1,x,h,H=>by simp only[iL];exact pK (mem:=m) (b:=b) (by simpa using h) H
theorem nV(f:kY)(r:aZ):(r.ren f).e=r.e:=by cases r<;>rfl
theorem j9(f:kY)(r:aZ):(r.ren f).len=r.len:=by cases r<;>simp[aZ.ren,aZ.len,fA]
theorem dG(f:kY)(r:aZ):(r.ren f).isCells=r.isCells:=by cases r<;>rfl
theorem rU(f:kY)(r:aZ):(r.ren f).isInts=r.isInts:=by cases r<;>rfl
theorem pC(f:kY){i c:Nat}: ∀{hs:List (Nat×Nat×AV)},aG i c (pQ f hs)=(aG i c hs).map (·.ren f)
 | []=>rfl
 |(i',c',v)::r=>by
  simp only[pQ,aG];split
  ·rfl
  ·exact pC f
theorem MO{y:PV}{β:Bool}{e:Nat}{xs:List PV}(h:cW y=some (.pvs β e xs)):β=false:=by
 cases y with
 |ints k H=>cases h
 |sl e H=>simp only[cW]at h;rw[aA]at h;obtain⟨_,h⟩:=h;cases h;rfl
 |lit u=>cases h
 |agg cs=>cases h
theorem E6(f:kY): ∀{hs:List (Nat×Nat×AV)} {x:Nat×Nat×AV},x∈pQ f hs->∃y∈hs,x.1=y.1
 | [],x,h=>by cases h
 |(i',c',v)::r,x,h=>by
  simp only[pQ]at h;rcases yj1.1 h with rfl|h
  ·exact⟨_,yn ..,rfl⟩
  ·obtain⟨y,H,J⟩:=E6 f h;exact⟨y,yj _ H,J⟩
theorem BC: ∀{hs:List (Nat×Nat×AV)} {i c:Nat} {a:AV},aG i c hs=some a->a.lent=true->mK hs=true
 | [],i,c,a,h,_=>by cases h
 |(i',c',v)::r,i,c,a,h,H=>by
  simp only[aG]at h;simp only[mK,yc2];split at h
  ·obtain rfl:=ya h;exact .inl H
  ·exact .inr (BC h H)
theorem cN.ren{w:World}{B:Nat}{f:kY}{r:aZ}{i c B':Nat}:cN w B (r.ren f) i c B'↔cN w B r i c B':=by
 cases r with
 |own e xs hs=>
  constructor
  ·rintro⟨K,H,J⟩;rw[pC,Option.map_eq_none_iff]at H;exact⟨K,H,J⟩
  ·rintro⟨K,H,J⟩;exact⟨K,by rw[pC,H];rfl,J⟩
 |_=>exact Iff.rfl
theorem iD.ren{G V:Gh}{w:World}{f:kY}{l:Bool}(hr:Ey G V f)(Y: ∀β B o,(β=true->l=true)->G.prot β B o->V.prot β B o){B a:Nat}{r:aZ}(h:iD G w B a r)(hl:sN r=true->l=true)
  (hin: ∀i c B',cN w B r i c B'->V.mine B'/\∀β o,¬V.prot β B' o):iD V w B a (r.ren f):=by
 cases r with
 |ints k xs=>exact h
 |pvs β e xs=>exact⟨h.1,λi x c y H M=>by obtain⟨v,U,N,O⟩:=h.2 i x c y H M;exact⟨v,U,N,O.mono (λB o hb=>Y β B o (λe=>hl (by simp[sN,e])) hb) (λ_ _ _=>rfl)⟩⟩
 |cells e cs=>
  refine⟨by simpa[fA]using h.1,λj y M=>?_⟩;obtain⟨x,H,rfl⟩:=r7 M;obtain⟨v,U,N,O⟩:=h.2 j x H;exact⟨v,U,N,O.ren hr Y (λe=>hl (by simp[sN,j0 H e]))⟩
 |own e xs hs=>
  obtain⟨U,N,O⟩:=h;refine⟨λx H=>by obtain⟨y,M,he⟩:=E6 f H;rw[he];exact U y M,N,λi x c y H M=>?_⟩;obtain⟨v,hv,hv1,K⟩:=O i x c y H M;refine⟨v,hv,hv1,?_⟩;rw[pC];cases Z:aG i c hs with
  |some a=>rw[Z]at K;exact VR.ren hr Y K (λe=>hl (by simp only[sN];exact BC Z e))
  |none=>
   rw[Z]at K;rcases K with K|⟨row,J,K⟩
   ·exact .inl K
   ·refine .inr ⟨row,J,?_⟩;rcases K with K|⟨B',a',cap,rfl,ka,k1,k2,k3,k4,k5,W,k7⟩
    ·exact .inl K
    ·obtain⟨m1,m2⟩:=hin i c B' ⟨⟨x,y,row,H,M,J⟩,Z,_,_,_,hv⟩;refine .inr ⟨B',a',cap,rfl,ka,k1,k2,m1,k4,k5,?_,m2⟩;cases row with
     |ints k xs=>exact W
     |pvs β e xs=>
      refine⟨W.1,λi x c y H M=>?_⟩;obtain⟨v,U,N,O⟩:=W.2 i x c y H M;refine⟨v,U,N,O.mono (λB o hb=>Y β B o (λe=>?_) hb) (λ_ _ _=>rfl)⟩;subst e;have:=MO J;cases this
     |cells e cs=>cases W
     |own e xs hs=>cases W
theorem Bx: ∀{ids:List Nat} {b n j:Nat},w7 b ids n=some j->∃i,j=n+i/\ids[i]?=some b
 | [],b,n,j,h=>by simp[w7]at h
 |m::r,b,n,j,h=>by
  simp only[w7]at h;cases H:Nat.beq m b with
  |true=>rw[H]at h;simp at h;subst h;exact⟨0,rfl,by simp[bN.1 H]⟩
  |false=>
   rw[H]at h;simp only[yh]at h;obtain⟨i,rfl,J⟩:=Bx h;exact⟨i+1,by omega,by simpa using J⟩
theorem rO: ∀{ids:List Nat} {i j b:Nat},dY ids=true->ids[i]?=some b->ids[j]?=some b->i=j
 | [],i,j,b,_,h,_=>by simp at h
 |m::r,i,j,b,hn,H,J=>by
  simp only[dY,yc,yw]at hn;have K: ∀k:Nat,r[k]?=some m->False:=λk M=>by
   have:=rD.2 (yk M);rw[this]at hn;simp at hn
  cases i with
  |zero=>
   cases j with
   |zero=>rfl
   |succ j=>simp at H J;subst H;exact(K j J).elim
  |succ i=>
   cases j with
   |zero=>simp at H J;subst J;exact(K i H).elim
   |succ j=>rw[rO (ids:=r) (i:=i) (j:=j) hn.2 (by simpa using H) (by simpa using J)]
def wI(m:Nat)(keep:Bool)(G:Gh)(mem:aK)(ids:List Nat):Nat->Nat->Option Ff:=λj g=>(ids[j]?).bind λb=>(o8 mem b).bind λh=>if g=gA m keep (lZ mem b) j h then G.loc b h else if j<m/\g=0 then G.loc b 0 else none
theorem lJ{mem:aK}{b g:Nat}:o8 mem b=some g↔∃x,mem[b]?=some (some x)/\x.gen=g:=by
 unfold o8;split
 ·rename_i x K;constructor
  ·intro h;exact⟨x,K,by simpa using h⟩
  ·rintro⟨y,H,rfl⟩;rw[K]at H;simp at H;subst H;rfl
 ·rename_i J;constructor
  ·intro h;simp at h
  ·rintro⟨y,H,_⟩;exact absurd H (J y)
theorem nS{mem:aK}{b:Nat}{x:bK}(h:mem[b]?=some (some x)):lZ mem b=x.row.isCells:=by unfold lZ;rw[h]
theorem Ou{m:Nat}{keep:Bool}{mem:aK}{ids:List Nat}{b g:Nat}{q:Nat×Nat}(h:fU m keep mem ids b g=some q): ∃j,q=(j,gA m keep (lZ mem b) j g)/\ids[j]?=some b/\o8 mem b=some g:=by
 unfold fU at h;split at h
 ·rename_i M N;cases H:Nat.beq M g with
  |false=>rw[H]at h;simp at h
  |true=>
   rw[H]at h;simp only[yg]at h;obtain⟨j,K,rfl⟩:=ye.1 h;obtain⟨i,rfl,J⟩:=Bx K;rw[<-bN.1 H];exact⟨i,by simp,J,N⟩
 ·simp at h
theorem Gx{m:Nat}{keep:Bool}{G H:Gh}{mem:aK}{ids:List Nat}(J:H.loc=wI m keep G mem ids):Ey G H (fU m keep mem ids):=by
 intro b g q L K hL;obtain⟨j,rfl,M,N⟩:=Ou K;rw[J];simp[wI,M,N,hL]
theorem e9(m:Nat)(keep:Bool)(f:kY)(mem:aK): ∀(ids:List Nat) (n j:Nat),(eH m keep f mem n ids)[j]?=(ids[j]?).map λb=>match mem[b]? with|some (some x)=>some {gen:=gA m keep x.row.isCells (n+j) x.gen,frz:=x.frz,row:=x.row.ren f}|_=>none
 | [],n,j=>by simp[eH]
 |b::r,n,0=>by simp only[eH,ye3,yl,yw1];rfl
 |b::r,n,j+1=>by simp only[eH,ym1];rw[e9 m keep f mem r (n+1) j];simp only[show n+1+j=n+(j+1) by omega]
theorem dU{m:Nat}{keep:Bool}{f:kY}{mem:aK}{ids:List Nat}{j:Nat}{y:bK}(h:(eH m keep f mem 0 ids)[j]?=some (some y)):
  ∃b x,ids[j]?=some b/\mem[b]?=some (some x)/\y={gen:=gA m keep x.row.isCells j x.gen,frz:=x.frz,row:=x.row.ren f}:=by
 rw[e9]at h;obtain⟨b,H,h⟩:=ye.1 h;split at h
 ·rename_i x J;exact⟨b,x,H,J,by simpa using h.symm⟩
 ·simp at h
theorem H4{m:Nat}{keep:Bool}{G O:Gh}{w:World}{mem:aK}{ids:List Nat}(hM:aH G w mem)(hn:dY ids=true)(M:O.loc=wI m keep G mem ids)(hp: ∀β B o,G.prot β B o->O.prot β B o)
  (hnp: ∀(b:Nat) (x:bK) (B:Nat),b∈ids->mem[b]?=some (some x)->x.frz=false->eT G b x B->∀β o,¬O.prot β B o)
  (Z: ∀(b:Nat) (x:bK) (B:Nat),b∈ids->mem[b]?=some (some x)->eT G b x B->O.mine B)
  (hinn: ∀(b:Nat) (x:bK) (B i c B':Nat),b∈ids->mem[b]?=some (some x)->eT G b x B->cN w B x.row i c B'->O.mine B'/\∀β o,¬O.prot β B' o) (hown: ∀B,w.heap.size≤B->O.mine B)
  (hlab: ∀B o,O.prot false B o->O.prot true B o) (haway: ∀β B o,O.prot β B o->B<w.heap.size):aH O w (eH m keep (fU m keep mem ids) mem 0 ids):=by
 have hr:=Gx M;have l0: ∀{j b:Nat} {x:bK},ids[j]?=some b->mem[b]?=some (some x)->O.loc j (gA m keep x.row.isCells j x.gen)=G.loc b x.gen:=by
  intro j b x hj H;rw[M];simp[wI,hj,lJ.2 ⟨x,H,rfl⟩,nS H]
 have N: ∀{j b:Nat} {x:bK} {B:Nat},ids[j]?=some b->mem[b]?=some (some x)->eT O j {gen:=gA m keep x.row.isCells j x.gen,frz:=x.frz,row:=x.row.ren (fU m keep mem ids)} B->eT G b x B:=by
  rintro j b x B hj H ⟨L,W,hB⟩
  simp only at W;rw[l0 hj H]at W;exact⟨L,W,hB⟩
 refine⟨λj y h=>?_,λj g h=>?_,λj y g h hlt=>?_,λj j' y y' L L' B h h' W Y hk hk'=>?_,λj j' y y' B i c B' h k hi h' k'=>?_,λj j' y y' B C i c i' c' B' h k hi h' k' hi'=>?_,hown,hlab,haway,hM.glob.mono (hp true) λ_ _ _=>rfl⟩
 ·obtain⟨b,x,U,H,rfl⟩:=dU h;have hbx:=hM.box b x H;obtain⟨o,a0,W,ha0,hm⟩:=hbx.loc;refine⟨by simp only[nV];exact hbx.e,o,a0,?_,by rw[rU];exact ha0,?_⟩
  ·simp only[nV,j9];rw[l0 U H];exact W
  ·cases o with
   |none=>simp only[j9,dG];exact hm
   |some B=>
    obtain⟨h1,h2,h3,h4,h5⟩:=hm;have hB:eT G b x B:=⟨_,W,rfl⟩
    have V:=yk U;exact⟨Z b x B V H hB,h2,h3,h4.ren (l:=true) hr (fun β B o _=>hp β B o) (λ_=>rfl) (λi c B' hi=>hinn b x B i c B' V H hB hi),λhf=>hnp b x B V H hf hB⟩
 ·rw[M];unfold wI;cases hj:ids[j]? with
  |none=>rfl
  |some b=>
   simp only[yb];cases hg:o8 mem b with
   |none=>rfl
   |some g'=>
    obtain⟨x,H,_⟩:=lJ.1 hg;exact absurd (by rw[e9,hj];simp[H]) (h {gen:=gA m keep x.row.isCells j x.gen,frz:=x.frz,row:=x.row.ren (fU m keep mem ids)})
 ·obtain⟨b,x,U,H,rfl⟩:=dU h;rw[M];unfold wI;simp only[U,yb,lJ.2 ⟨x,H,rfl⟩,nS H];rw[if_neg (by simp only at hlt;omega),if_neg (by omega)]
 ·obtain⟨b,x,U,H,rfl⟩:=dU h;obtain⟨b',x',K,J,rfl⟩:=dU h';simp only at W Y;rw[l0 U H]at W;rw[l0 K J]at Y;obtain rfl:=hM.apart b b' x x' L L' B H J W Y hk hk';exact rO hn U K
 ·obtain⟨b,x,U,H,rfl⟩:=dU h;obtain⟨b',x',K,J,rfl⟩:=dU h';exact hM.inA b b' x x' B i c B' H (N U H k) (cN.ren.1 hi) J (N K J k')
 ·obtain⟨b,x,U,H,rfl⟩:=dU h;obtain⟨b',x',K,J,rfl⟩:=dU h';obtain⟨rfl,h2⟩:=hM.inB b b' x x' B C i c i' c' B' H (N U H k) (cN.ren.1 hi) J (N K J k') (cN.ren.1 hi');exact⟨rO hn U K,h2⟩
def Gh.drop(G:Gh)(b0:Nat):Gh:={G with loc:=λb g=>if b=b0 then none else G.loc b g}
theorem fS: ∀{cs:List AV} {j:Nat} {y:AV} {b:Nat},cs[j]?=some y->b∈y.refs->b∈AV.refsAll cs
 | [],j,y,b,h,_=>by simp at h
 |c::cs,0,y,b,h,H=>by simp at h;subst h;simp[AV.refsAll,H]
 |c::cs,j+1,y,b,h,H=>by simp[AV.refsAll,fS (cs:=cs) (j:=j) (by simpa using h) H]
theorem Gh.drop_loc{G:Gh}{b0 b g:Nat}(h:b≠b0):(G.drop b0).loc b g=G.loc b g:=by simp[Gh.drop,h]
theorem VR.drop{G:Gh}{w:World}{b0:Nat}{a:AV}{v:Value}(h:VR G w a v):b0∉a.refs->VR (G.drop b0) w a v:=by
 induction h with
 |lit v h=>intro _;exact .lit v h
 |imm β p v h hs=>intro _;exact .imm β p v h hs
 |unkB b=>intro _;exact .unkB b
 |dead v h1 V=>intro _;exact .dead v h1 V
 |ptr b g i c L B N M=>intro hn;exact .ptr b g i c L B (by rw[Gh.drop_loc (by rintro rfl;exact hn (by simp[AV.refs]))];exact N) M
 |ms b g o n cap L B N M hn O hf=>intro H;exact .ms b g o n cap L B (by rw[Gh.drop_loc (by rintro rfl;exact H (by simp[AV.refs]))];exact N) M hn O hf
 |msNil b g L N M=>intro hn;exact .msNil b g L (by rw[Gh.drop_loc (by rintro rfl;exact hn (by simp[AV.refs]))];exact N) M
 |msZ b g o B oo L N M ho O=>intro hn;exact .msZ b g o B oo L (by rw[Gh.drop_loc (by rintro rfl;exact hn (by simp[AV.refs]))];exact N) M ho O
 |msw b g cap L B N M hn hf=>intro H;exact .msw b g cap L B (by rw[Gh.drop_loc (by rintro rfl;exact H (by simp[AV.refs]))];exact N) M hn hf
 |mswNil b g L N M hn=>intro H;exact .mswNil b g L (by rw[Gh.drop_loc (by rintro rfl;exact H (by simp[AV.refs]))];exact N) M hn
 |el β p c B o cv h W=>intro _;exact .el β p c B o cv h W
 |fn f' fi ca fv cv h1 V hf hc Z U=>
  intro hn;simp only[AV.refs,yn1,not_or]at hn;exact .fn f' _ _ fv cv h1 V (λj y K=>Z j y K (λh=>hn.1 (fS K h))) (λj y K=>U j y K (λh=>hn.2 (fS K h)))
 |agg cs cvs J h Y=>intro hn;simp only[AV.refs]at hn;exact .agg _ cvs J (λj y K=>Y j y K (λh=>hn (fS K h)))
 |tup cs cvs J h Y=>intro hn;simp only[AV.refs]at hn;exact .tup _ cvs J (λj y K=>Y j y K (λh=>hn (fS K h)))
theorem s9{b i c:Nat}{a:AV}: ∀{hs:List (Nat×Nat×AV)},aG i c hs=some a->b∈a.refs->b∈fN hs
 | [],h,_=>by cases h
 |(i',c',v)::r,h,H=>by
  simp only[aG]at h;simp only[fN,yn1];split at h
  ·obtain rfl:=ya h;exact .inl H
  ·exact .inr (s9 h H)
theorem iD.drop{G:Gh}{w:World}{b0 B a:Nat}{r:aZ}(h:iD G w B a r)(hn:b0∉r.refs):iD (G.drop b0) w B a r:=by
 cases r with
 |ints k xs=>exact h
 |pvs β e xs=>exact h
 |cells e cs=>exact⟨h.1,λj y K=>by obtain⟨v,h1,Y,Z⟩:=h.2 j y K;exact⟨v,h1,Y,Z.drop (λN=>hn (fS K N))⟩⟩
 |own e xs hs=>
  refine⟨h.1,h.2.1,λi x c y hx K=>?_⟩;obtain⟨v,hv,U,H⟩:=h.2.2 i x c y hx K;refine⟨v,hv,U,?_⟩;cases O:aG i c hs with
  |some a=>rw[O]at H;exact VR.drop H (λN=>hn (s9 O N))
  |none=>
   rw[O]at H;rcases H with H|⟨row,J,H⟩
   ·exact .inl H
   ·refine .inr ⟨row,J,?_⟩;rcases H with H|⟨B',W,cap,rfl,V,k1,k2,k3,k4,k5,M,k7⟩
    ·exact .inl H
    ·refine .inr ⟨B',W,cap,rfl,V,k1,k2,k3,k4,k5,?_,k7⟩;cases row with
     |ints k xs=>exact M
     |pvs β e xs=>exact M
     |cells e cs=>cases M
     |own e xs hs=>cases M
end Go.Ab
end
section
namespace Go.Ab
variable [cF]
theorem eQ{b:Nat}: ∀{l r:List Nat},cP b (l++r)=cP b l+cP b r
 | [],r=>by simp[cP]
 |m::l,r=>by
  simp only[yk3,cP];cases Nat.beq m b with
  |true=>simp only[yg];rw[eQ (l:=l)];omega
  |false=>simp only[yh];exact eQ (l:=l)
theorem jP{b:Nat}: ∀{l:List Nat},b∈l->1≤cP b l
 | [],h=>by cases h
 |m::l,h=>by
  simp only[cP];cases H:Nat.beq m b with
  |true=>simp only[yg];omega
  |false=>
   simp only[yh];rcases yj1.1 h with rfl|h
   ·simp at H
   ·exact jP h
theorem lD{b:Nat}: ∀{mem:aK} {j:Nat} {x:bK},mem[j]?=some (some x)->cP b x.row.refs≤cP b (cJ mem)
 | [],j,x,h=>by simp at h
 |some y::m,0,x,h=>by simp at h;subst h;simp only[cJ,eQ];omega
 |none::m,0,x,h=>by simp at h
 |some y::m,j+1,x,h=>by have:=lD (b:=b) (mem:=m) (j:=j) (by simpa using h);simp only[cJ,eQ];omega
 |none::m,j+1,x,h=>by have:=lD (b:=b) (mem:=m) (j:=j) (by simpa using h);simpa only[cJ]using this
theorem Ba{b:Nat}: ∀{mem:aK} {j j':Nat} {x x':bK},mem[j]?=some (some x)->mem[j']?=some (some x')->j≠j'->cP b x.row.refs+cP b x'.row.refs≤cP b (cJ mem)
 | [],j,j',x,x',h,_,_=>by simp at h
 |some y::m,0,0,x,x',h,H,hn=>absurd rfl hn
 |none::m,0,j',x,x',h,H,hn=>by simp at h
 |none::m,j+1,0,x,x',h,H,hn=>by simp at H
 |some y::m,0,j'+1,x,x',h,H,hn=>by
  simp at h;subst h;have:=lD (b:=b) (mem:=m) (j:=j') (by simpa using H);simp only[cJ,eQ];omega
 |some y::m,j+1,0,x,x',h,H,hn=>by
  simp at H;subst H;have:=lD (b:=b) (mem:=m) (j:=j) (by simpa using h);simp only[cJ,eQ];omega
 |some y::m,j+1,j'+1,x,x',h,H,hn=>by
  have:=Ba (b:=b) (mem:=m) (j:=j) (j':=j') (by simpa using h) (by simpa using H) (by omega);simp only[cJ,eQ];omega
 |none::m,j+1,j'+1,x,x',h,H,hn=>by
  have:=Ba (b:=b) (mem:=m) (j:=j) (j':=j') (by simpa using h) (by simpa using H) (by omega);simpa only[cJ]using this
theorem Ek{b:Nat}: ∀{hs:List (Nat×Nat×AV)} {k:Nat} {h:Nat×Nat×AV},hs[k]?=some h->cP b (fN hs)=cP b h.2.2.refs+cP b (fN (cS hs k))
 | [],k,h,H=>by simp at H
 |(i,c,v)::r,0,h,H=>by simp at H;subst H;simp only[fN,cS,eQ]
 |(i,c,v)::r,k+1,h,H=>by
  have:=Ek (b:=b) (hs:=r) (k:=k) (h:=h) (by simpa using H);simp only[fN,cS,eQ];omega
theorem Gg{α:Type}: ∀{l:List α} {k:Nat},∀x∈cS l k,x∈l
 | [],k,x,h=>by simp[cS]at h
 |a::r,0,x,h=>yj _ h
 |a::r,k+1,x,h=>by
  simp only[cS]at h;rcases yj1.1 h with rfl|h
  ·exact yn ..
  ·exact yj _ (Gg x h)
theorem B6{c i:Nat}{v:AV}: ∀{hs:List (Nat×Nat×AV)} {k:Nat},hs[k]?=some (i,c,v)->k8 c (cS hs k)=none->
  aG i c hs=some v/\(∀H,H≠i->aG H c hs=none)/\∀H K,K≠c->aG H K (cS hs k)=aG H K hs
 | [],k,J,_=>by simp at J
 |(Y,N,v2)::r,0,J,hf=>by
  simp at J;obtain⟨rfl,rfl,rfl⟩:=J;simp only[cS]at hf;refine⟨by simp[aG],λH O=>?_,λH K hc=>?_⟩
  ·simp only[aG];rw[if_neg (λh=>O h.1.symm)];exact dV hf
  ·simp only[cS,aG];rw[if_neg (λh=>hc h.2.symm)]
 |(Y,N,v2)::r,k+1,J,hf=>by
  simp only[cS,k8]at hf;cases U:Nat.beq c N with
  |true=>rw[U]at hf;cases hf
  |false=>
   rw[U]at hf;simp only[yh]at hf;have M:N≠c:=by rintro rfl;simp at U
   obtain⟨V,W,Z⟩:=B6 (hs:=r) (k:=k) (by simpa using J) hf;refine⟨?_,λH O=>?_,λH K hc=>?_⟩
   ·simp only[aG];rw[if_neg (λh=>M h.2)];exact V
   ·simp only[aG];rw[if_neg (λh=>M h.2)];exact W H O
   ·simp only[cS,aG];split
    ·rfl
    ·exact Z H K hc
theorem OR.drop{G:Gh}{w:World}{b0:Nat}{y:PV}{v:Value}(h:OR G w y v):OR (G.drop b0) w y v:=by
 rcases h with H|⟨row,J,H⟩
 ·exact .inl H
 ·refine .inr ⟨row,J,?_⟩;rcases H with H|⟨B',N,cap,rfl,M,k1,Y,O,V,U,K,W⟩
  ·exact .inl H
  ·refine .inr ⟨B',N,cap,rfl,M,k1,Y,O,V,U,?_,W⟩;cases row with
   |ints k xs=>exact K
   |pvs β e xs=>exact K
   |cells e cs=>cases K
   |own e xs hs=>cases K
theorem Jx{G:Gh}{w:World}{mem:aK}{v:AV}{q:Nat×PV}{u:Value}(hM:aH G w mem)(h:A7 mem v=some q)(hv:VR G w v u):
  q.2.cells= [q.2]/\q.1∈v.refs/\OR G w q.2 u/\∃x,mem[q.1]?=some (some x)/\∀B' V n cap,u= .slice (some ⟨B',V,none⟩) n cap->eT G q.1 x B':=by
 have whole: ∀{b g:Nat} {x:bK} {z:PV} {row:aZ},mem[b]?=some (some x)->x.gen=g->x.frz=false->x.row=row->cW z=some row->GQ G w 0 0 row=GQ G w 0 0 row->(∀B a,iD G w B a row->GQ G w B a row)->VR G w (.msw b g) u->
   OR G w z u/\∀B' V n cap,u= .slice (some ⟨B',V,none⟩) n cap->eT G b x B':=by
  intro b g x z row hm Y hf H hz _ hP hv;subst Y;cases hv with
  |msw _ _ cap L B Z hb hn K=>
   have hB:eT G b x B:=⟨L,Z,hb⟩
   obtain⟨a0,J,W,U,M,h3,h4,h5⟩:=hM.blk hm hB;rw[Z]at J;obtain rfl:=ya J;rw[H]at h4 hn K⊢
   refine⟨.inr ⟨row,hz,.inr ⟨B,a0,cap,rfl,by rw[<-H];exact W,hn,K,U,M,h3,hP B _ h4,h5 hf⟩⟩,λB' V n O h=>?_⟩;simp only[Value.slice.injEq,Option.some.injEq,Addr.mk.injEq,and_true]at h;obtain⟨⟨rfl,_⟩,_⟩:=h;exact hB
  |mswNil _ _ L Z hb hn=>
   obtain⟨oo,a0,J,W,hmm⟩:=(hM.box b x hm).loc;rw[Z]at J;obtain rfl:=ya J;rw[H]at hn;exact⟨.inr ⟨row,hz,.inl ⟨rfl,hn⟩⟩,λB' V n O h=>by cases h⟩
 have part: ∀{b g n:Nat} {x:bK} {z:PV} {row row':aZ},mem[b]?=some (some x)->x.gen=g->x.frz=false->x.row=row->row'.len=n->row'.e=row.e->row'.isInts=row.isInts->cW z=some row'->(∀B a,iD G w B a row->GQ G w B a row')->VR G w (.ms b g 0 n) u->
   OR G w z u/\∀B' V n cap,u= .slice (some ⟨B',V,none⟩) n cap->eT G b x B':=by
  intro b g n x z row row' hm Y hf H N he hri hz hP hv;subst Y;cases hv with
  |ms _ _ _ _ cap L B Z hb hn hon K=>
   have hB:eT G b x B:=⟨L,Z,hb⟩
   obtain⟨a0,J,W,U,M,h3,h4,h5⟩:=hM.blk hm hB;rw[Z]at J;obtain rfl:=ya J;rw[H]at h4 K⊢
   simp only[yr3,yc1,yw1]at K⊢
   refine⟨.inr ⟨row',hz,.inr ⟨B,a0,cap,by rw[N],by rw[hri,<-H];exact W,by rw[N];exact hn,by rw[he];exact K,U,M,h3,hP B _ h4,h5 hf⟩⟩,λB' V n O h=>?_⟩;simp only[Value.slice.injEq,Option.some.injEq,Addr.mk.injEq,and_true]at h;obtain⟨⟨rfl,_⟩,_⟩:=h;exact hB
  |msNil _ _ L Z hb=>exact⟨.inr ⟨row',hz,.inl ⟨rfl,N⟩⟩,λB' V n O h=>by cases h⟩
  |msZ _ _ _ B oo L Z hb ho hon=>omega
 have hle: ∀{e:Nat} {xs:List PV} {b:Nat} {x:bK},mem[b]?=some (some x)->x.row= .pvs false e xs->∀ys,cW (.sl e ys)=some (.pvs false e ys):=by
  intro e xs b x hm H ys;have:=(hM.box b x hm).e;rw[H]at this;simp only[cW,guardB,cO.2 (show 1≤e from this),yg]
 unfold A7 at h;split at h
 ·rename_i b g;rw[bind_some]at h;obtain⟨x,hx,h⟩:=h;obtain⟨hm,Y⟩:=box?_some hx;cases hf:x.frz with
  |true=>rw[hf]at h;cases h
  |false=>
   rw[hf]at h;simp only[yh]at h;split at h
   ·rename_i k xs H;obtain rfl:=ya h;obtain⟨U,M⟩:=whole (z:= .ints k xs) hm Y hf H rfl rfl (λB _ h=>h) hv;exact⟨rfl,by simp[AV.refs],U,x,hm,M⟩
   ·rename_i e xs H;obtain rfl:=ya h;obtain⟨U,M⟩:=whole (z:= .sl e xs) hm Y hf H (hle hm H xs) rfl (λB _ h=>h) hv;exact⟨rfl,by simp[AV.refs],U,x,hm,M⟩
   ·cases h
 ·rename_i b g n;rw[bind_some]at h;obtain⟨x,hx,h⟩:=h;obtain⟨hm,Y⟩:=box?_some hx;cases hf:x.frz with
  |true=>rw[hf]at h;cases h
  |false=>
   rw[hf]at h;simp only[yh]at h;split at h
   ·rename_i k xs H;rw[aA]at h;obtain⟨hn,h⟩:=h;have hn:=cO.1 hn;obtain rfl:=ya h
    obtain⟨U,M⟩:=part (z:= .ints k (xs.take n)) (row':= .ints k (xs.take n)) hm Y hf H (by simp[aZ.len];omega) rfl rfl rfl (λB _ h i x hi=>by
     have hi2:=(yd.1 hi).1;rw[ys1,if_pos (by simp at hi2;omega)]at hi
     exact h i x hi) hv
    exact⟨rfl,by simp[AV.refs],U,x,hm,M⟩
   ·rename_i e xs H;rw[aA]at h;obtain⟨hn,h⟩:=h;have hn:=cO.1 hn;obtain rfl:=ya h
    obtain⟨U,M⟩:=part (z:= .sl e (xs.take n)) (row':= .pvs false e (xs.take n)) hm Y hf H (by simp[aZ.len];omega) rfl rfl (hle hm H _) (λB _ h=>⟨λx hx=>h.1 x (yf3 hx),λi x c y hi hy=>by
     have hi2:=(yd.1 hi).1;rw[ys1,if_pos (by simp at hi2;omega)]at hi
     exact h.2 i x c y hi hy⟩) hv
    exact⟨rfl,by simp[AV.refs],U,x,hm,M⟩
   ·cases h
 ·cases h
theorem Od{G:Gh}{w:World}{mem mem':aK}{b k:Nat}{vs:List AV}(hM:aH G w mem)(h:qO mem b k=some mem')
  (hcnt: ∀e xs hs gen frz hh b0,mem[b]?=some (some {gen,frz,row:= .own e xs hs})->hs[k]?=some hh->pI hh.2.2=some b0->cP b0 (AV.refsAll vs++cJ mem)=1):
  ∃b0,aH (G.drop b0) w mem'/\b0∉AV.refsAll vs/\b0≠b/\(∀H:Nat,H≠b0->(∀x:bK,mem[H]?=some (some x)->∃x':bK,mem'[H]?=some (some x')/\x'.gen=x.gen/\x'.frz=x.frz/\x'.row.isCells=x.row.isCells)/\(mem[H]?=some none->mem'[H]?=some none))/\
   (∃(hh:Nat×Nat×AV) (e:Nat) (xs:List PV) (hs:List (Nat×Nat×AV)) (gen:Nat) (frz:Bool),mem[b]?=some (some {gen,frz,row:= .own e xs hs})/\hs[k]?=some hh/\pI hh.2.2=some b0):=by
 unfold qO at h;split at h
 ·rename_i gen frz e xs hs hm;rw[bind_some]at h;obtain⟨hh,hk,h⟩:=h;obtain⟨i,c,v⟩:=hh;simp only at h;rw[bind_some]at h;obtain⟨p,hp,h⟩:=h;rw[bind_some]at h;obtain⟨y,hy,h⟩:=h;rw[bind_some]at h;obtain⟨q,M,h⟩:=h;rw[aA]at h;obtain⟨hg,h⟩:=h;obtain rfl:=ya h;simp only[yc,yw]at hg;obtain⟨⟨g1,g2⟩,g3⟩:=hg;have g3:=Option.isNone_iff_eq_none.1 g3;obtain⟨b0,z⟩:=q;simp only at g1 g2⊢
  have U:pI v=some b0:=by
   unfold A7 at M;split at M
   ·rw[bind_some]at M;obtain⟨x,_,M⟩:=M;cases hf:x.frz<;>rw[hf]at M
    ·simp only[yh]at M;split at M
     ·cases M;rfl
     ·cases M;rfl
     ·cases M
    ·cases M
   ·rw[bind_some]at M;obtain⟨x,_,M⟩:=M;cases hf:x.frz<;>rw[hf]at M
    ·simp only[yh]at M;split at M
     ·rw[aA]at M;cases M.2;rfl
     ·rw[aA]at M;cases M.2;rfl
     ·cases M
    ·cases M
   ·cases M
  have hcnt:=hcnt e xs hs gen frz _ b0 hm hk U;obtain⟨o1,o2,o3⟩:=B6 hk g3;have hne:b0≠b:=λh=>by rw[bN.2 h]at g2;cases g2
  have hbl:b<mem.length:=(yd.1 hm).1
  -- the hole
  have hbx:=hM.box b _ hm;have hrefs:b0∈v.refs:=by
   unfold pI at U;split at U
   ·cases U;simp[AV.refs]
   ·cases U;simp[AV.refs]
   ·cases U
  have hc1:=jP hrefs;have hdrop:=Ek (b:=b0) hk;simp only at hdrop;rw[eQ]at hcnt;have hbm:cP b0 (fN hs)≤cP b0 (cJ mem):=lD (b:=b0) hm;have hnv:b0∉AV.refsAll vs:=λh=>by have:=jP h;omega
  have hnd:b0∉fN (cS hs k):=λh=>by have:=jP h;omega
  have hno: ∀{H:Nat} {x:bK},H≠b->mem[H]?=some (some x)->b0∉x.row.refs:=by
   intro H x hb W h;have:=jP h;have O:cP b0 (fN hs)+cP b0 x.row.refs≤cP b0 (cJ mem):=Ba (b:=b0) hm W (λh=>hb h.symm);omega
  -- where the row stands: it has an element, hence a block
  obtain⟨oo,a0,hl,ha0,hmm⟩:=hbx.loc;have hxl:i<xs.length:=(yd.1 hp).1;cases oo with
  |none=>simp only[aZ.len]at hmm;omega
  |some B=>
   obtain⟨m1,m2,m3,hr,m5⟩:=hmm;have hB:eT G b {gen,frz,row:= .own e xs hs} B:=⟨_,hl,rfl⟩
   obtain⟨r1,r2,r3⟩:=hr;obtain⟨u,hu,hu1,hor⟩:=r3 i p c y hp hy;rw[o1]at hor;obtain⟨z1,z2,z3,x0,hx0,hzB⟩:=Jx hM M hor;simp only at z1 z2 z3 hx0 hzB;have hcell: ∀{K:Nat} {x':PV} {J:Nat} {y':PV},(xs.set i (jZ p c z))[K]?=some x'->x'.cells[J]?=some y'->(K=i/\J=c/\y'=z)\/(¬(K=i/\J=c)/\∃x1,xs[K]?=some x1/\x1.cells[J]?=some y'):=by
    intro K x' J y' V O;rcases Kh V with ⟨rfl,rfl⟩|⟨hn,V⟩
    ·rw[wP hy z1]at O;by_cases N:J=c
     ·rw[if_pos N]at O;exact .inl ⟨rfl,N,(ya O).symm⟩
     ·rw[if_neg N]at O;exact .inr ⟨λh=>N h.2,p,hp,O⟩
    ·exact .inr ⟨λh=>hn h.1,x',V,O⟩
   have Z: ∀{H:Nat} {zz:bK},((mem.set b (some {gen,frz,row:= .own e (xs.set i (jZ p c z)) (cS hs k)})).set b0 none)[H]?=some (some zz)->
     H≠b0/\((H=b/\zz={gen,frz,row:= .own e (xs.set i (jZ p c z)) (cS hs k)})\/(H≠b/\mem[H]?=some (some zz))):=by
    intro H zz h;by_cases e0:H=b0
    ·subst e0;by_cases hl0:H<(mem.set b (some {gen,frz,row:= .own e (xs.set i (jZ p c z)) (cS hs k)})).length
     ·rw[yt hl0]at h;cases h
     ·rw[yd1 (by simp at hl0⊢;omega)]at h;cases h
    ·rw[yo (λx=>e0 x.symm)]at h;refine⟨e0,?_⟩;by_cases Y:H=b
     ·subst Y;rw[yt hbl]at h;exact .inl ⟨rfl,by simpa using h.symm⟩
     ·rw[yo (λx=>Y x.symm)]at h;exact .inr ⟨Y,h⟩
   have hblk: ∀{H:Nat} {zz:bK} {C:Nat},H≠b0->eT (G.drop b0) H zz C->eT G H zz C:=by
    rintro H zz C hn ⟨L,l1,k1⟩
    rw[Gh.drop_loc hn]at l1;exact⟨L,l1,k1⟩
   have hblkb: ∀{C:Nat},eT (G.drop b0) b {gen,frz,row:= .own e (xs.set i (jZ p c z)) (cS hs k)} C->C=B:=by
    intro C h;obtain⟨L,l1,k1⟩:=hblk (λh=>hne h.symm) h;simp only at l1;rw[hl]at l1;obtain rfl:=ya l1;exact(ya k1).symm
   -- inner blocks
   have hinn: ∀{K J B':Nat},cN w B (aZ.own e (xs.set i (jZ p c z)) (cS hs k)) K J B'->(K=i/\J=c/\eT G b0 x0 B')\/cN w B (aZ.own e xs hs) K J B':=by
    rintro K J B' ⟨⟨x',y',row,V,O,h3⟩,ho,a',n,cap,hcl⟩
    rcases hcell V O with ⟨rfl,rfl,rfl⟩|⟨hn,x1,V,O⟩
    ·rw[hu]at hcl;exact .inl ⟨rfl,rfl,hzB B' a' n cap (ya hcl)⟩
    ·refine .inr ⟨⟨x1,y',row,V,O,h3⟩,?_,a',n,cap,hcl⟩;by_cases N:J=c
     ·subst N;exact o2 K (λh=>hn ⟨h,rfl⟩)
     ·rw[<-o3 K J N];exact ho
   have hin0: ∀{H:Nat} {zz:bK} {C K J B':Nat},((mem.set b (some {gen,frz,row:= .own e (xs.set i (jZ p c z)) (cS hs k)})).set b0 none)[H]?=some (some zz)->eT (G.drop b0) H zz C->cN w C zz.row K J B'->
     (H=b/\K=i/\J=c/\eT G b0 x0 B')\/(∃z0,mem[H]?=some (some z0)/\eT G H z0 C/\cN w C z0.row K J B'):=by
    intro H zz C K J B' h hC hi;obtain⟨hn,h⟩:=Z h;rcases h with ⟨rfl,rfl⟩|⟨hn1,h⟩
    ·obtain rfl:=hblkb hC;rcases hinn hi with ⟨V,O,h3⟩|hi
     ·exact .inl ⟨rfl,V,O,h3⟩
     ·exact .inr ⟨_,hm,hB,hi⟩
    ·exact .inr ⟨zz,h,hblk hn hC,hi⟩
   have hbk0: ∀{H:Nat} {zz:bK} {C:Nat},((mem.set b (some {gen,frz,row:= .own e (xs.set i (jZ p c z)) (cS hs k)})).set b0 none)[H]?=some (some zz)->eT (G.drop b0) H zz C->H≠b0/\∃z0,mem[H]?=some (some z0)/\eT G H z0 C:=by
    intro H zz C h hC;obtain⟨hn,h⟩:=Z h;rcases h with ⟨rfl,rfl⟩|⟨hn1,h⟩
    ·obtain rfl:=hblkb hC;exact⟨hn,_,hm,hB⟩
    ·exact⟨hn,zz,h,hblk hn hC⟩
   refine⟨b0,⟨λH zz h=>?_,λH g h=>?_,λH zz g h hlt=>?_,λb1 b2 z1 z2 L1 L2 C V O l1 l2 k1 k2=>?_,λb1 b2 z1 z2 C K J B' V k1 hi O k2=>?_,λb1 b2 z1 z2 C D K J i2 c2 B' V k1 hi O k2 hi2=>?_,hM.own,hM.lab,hM.away,hM.glob⟩,hnv,hne,λH hb'=>⟨λx W=>?_,λW=>?_⟩,⟨_,_,_,_,_,_,hm,hk,U⟩⟩
   ·obtain⟨hn,h⟩:=Z h;rcases h with ⟨rfl,rfl⟩|⟨hn1,h⟩
    ·refine⟨hbx.e,some B,a0,by rw[Gh.drop_loc hn];simpa[aZ.e,aZ.len]using hl,λ_=>ha0 rfl,m1,m2,m3,?_,m5⟩;refine⟨λx W=>by rw[yt2];exact r1 x (Gg x W),λx W=>?_,λK x' J y' V O=>?_⟩
     ·rcases yi2 W with h|h
      ·exact r2 x h
      ·rw[h,Io hy z1];exact r2 p (yk hp)
     ·rcases hcell V O with ⟨rfl,rfl,rfl⟩|⟨hn',x1,V,O⟩
      ·refine⟨u,hu,hu1,?_⟩;rw[dV g3];exact OR.drop z3
      ·obtain⟨v',hv',hv1',ho'⟩:=r3 K x1 J y' V O;refine⟨v',hv',hv1',?_⟩;by_cases N:J=c
       ·subst N;rw[dV g3];rw[o2 K (λh=>hn' ⟨h,rfl⟩)]at ho';exact OR.drop ho'
       ·rw[o3 K J N];cases hq2:aG K J hs with
        |some a=>
         rw[hq2]at ho';exact VR.drop ho' (λhb=>hnd (s9 (i:=K) (c:=J) (by rw[o3 K J N];exact hq2) hb))
        |none=>rw[hq2]at ho';exact OR.drop ho'
    ·have hb:=hM.box H zz h;obtain⟨o',a0,hlo,ha0,hmo⟩:=hb.loc;refine⟨hb.e,o',a0,by rw[Gh.drop_loc hn];exact hlo,ha0,?_⟩;cases o' with
     |none=>exact hmo
     |some C=>exact⟨hmo.1,hmo.2.1,hmo.2.2.1,hmo.2.2.2.1.drop (hno hn1 h),hmo.2.2.2.2⟩
   ·by_cases e0:H=b0
    ·subst e0;simp[Gh.drop]
    ·rw[Gh.drop_loc e0];refine hM.unset H g λx W=>?_;by_cases Y:H=b
     ·subst Y;exact h _ (by rw[yo (λx=>e0 x.symm),yt hbl])
     ·exact h x (by rw[yo (λx=>e0 x.symm),yo (λx=>Y x.symm)];exact W)
   ·obtain⟨hn,h⟩:=Z h;rw[Gh.drop_loc hn];rcases h with ⟨rfl,rfl⟩|⟨hn1,h⟩
    ·exact hM.gens _ _ g hm hlt
    ·exact hM.gens _ _ g h hlt
   ·obtain⟨n1,y1,a1,d1⟩:=hbk0 V ⟨L1,l1,k1⟩;obtain⟨n2,y2,a2,d2⟩:=hbk0 O ⟨L2,l2,k2⟩;obtain⟨M1,d1,Y⟩:=d1;obtain⟨M2,d2,e2⟩:=d2;exact hM.apart _ _ y1 y2 M1 M2 C a1 a2 d1 d2 Y e2
   ·obtain⟨n2,y2,a2,d2⟩:=hbk0 O k2;rcases hin0 V k1 hi with ⟨rfl,rfl,rfl,hb0⟩|⟨z0,a1,d1,hi⟩
    ·obtain⟨M1,d1,Y⟩:=hb0;obtain⟨M2,d2,e2⟩:=d2;exact n2 (hM.apart _ _ x0 y2 M1 M2 B' hx0 a2 d1 d2 Y e2).symm
    ·exact hM.inA _ _ z0 y2 C K J B' a1 d1 hi a2 d2
   ·rcases hin0 V k1 hi with ⟨rfl,rfl,rfl,hb0⟩|⟨z0,a1,d1,hi⟩<;>rcases hin0 O k2 hi2 with ⟨rfl,rfl,rfl,hb0'⟩|⟨z0',a2,d2,hi2⟩
    ·exact⟨rfl,rfl,rfl⟩
    ·exact absurd hb0 (hM.inA _ _ z0' x0 D i2 c2 B' a2 d2 hi2 hx0)
    ·exact absurd hb0' (hM.inA _ _ z0 x0 C K J B' a1 d1 hi hx0)
    ·exact hM.inB _ _ z0 z0' C D K J i2 c2 B' a1 d1 hi a2 d2 hi2
   ·by_cases Y:H=b
    ·subst Y;rw[hm]at W;simp at W;subst W;exact⟨{gen,frz,row:= .own e (xs.set i (jZ p c z)) (cS hs k)},by rw[yo (λx=>hb' x.symm),yt hbl],rfl,rfl,rfl⟩
    ·exact⟨x,by rw[yo (λx=>hb' x.symm),yo (λx=>Y x.symm)];exact W,rfl,rfl,rfl⟩
   ·have Y:H≠b:=by rintro rfl;rw[hm]at W;cases W
    rw[yo (λx=>hb' x.symm),yo (λx=>Y x.symm)];exact W
 ·cases h
theorem v8{m:Nat}{refs:List Nat}{mem:aK}{all:List (Nat×Nat×AV)}: ∀{hs:List (Nat×Nat×AV)} {n k:Nat},k9 m refs mem all hs n=some k->∃j h,k=n+j/\hs[j]?=some h/\mB m refs mem h.2.2=true
 | [],n,k,h=>by cases h
 |(i,c,v)::r,n,k,h=>by
  simp only[k9]at h;cases H:(mB m refs mem v&&(k8 c (cS all n)).isNone)with
  |true=>
   rw[H]at h;obtain rfl:=ya h;simp only[yc]at H;exact⟨0,_,rfl,rfl,H.1⟩
  |false=>
   rw[H]at h;simp only[yh]at h;obtain⟨j,q,rfl,K,J⟩:=v8 h;exact⟨j+1,q,by omega,by simpa using K,J⟩
theorem Al{m:Nat}{refs:List Nat}{mem:aK}: ∀{l:aK} {n:Nat} {q:Nat×Nat},i9 m refs mem l n=some q->
  ∃j gen frz e xs hs h,q.1=n+j/\l[j]?=some (some {gen,frz,row:= .own e xs hs})/\hs[q.2]?=some h/\mB m refs mem h.2.2=true
 | [],n,q,h=>by cases h
 |x::r,n,q,h=>by
  have next:i9 m refs mem r (n+1)=some q->∃j gen frz e xs hs h,q.1=n+j/\(x::r)[j]?=some (some {gen,frz,row:= .own e xs hs})/\hs[q.2]?=some h/\mB m refs mem h.2.2=true:=by
   intro h;obtain⟨j,gen,frz,e,xs,hs,H,h1,J,U,N⟩:=Al h;exact⟨j+1,gen,frz,e,xs,hs,H,by omega,by simpa using J,U,N⟩
  simp only[i9]at h;split at h
  ·rename_i gen frz e xs hs;split at h
   ·rename_i k K;obtain rfl:=ya h;obtain⟨j,H,rfl,O,M⟩:=v8 K;exact⟨0,gen,frz,e,xs,hs,H,rfl,rfl,by simpa using O,M⟩
   ·exact next h
  ·exact next h
structure zZ (G:Gh) (w:World) (mem:aK) (m:Nat) (vs:List AV) (G':Gh) (mem':aK):Prop where
 memr:aH G' w mem'
 mine:G'.mine=G.mine
 prot:G'.prot=G.prot
 loc: ∀b g,b<m->G'.loc b g=G.loc b g
 vals: ∀(j:Nat) (y:AV) (v:Value),vs[j]?=some y->VR G w y v->VR G' w y v
 old: ∀b':Nat,b'<m->(∀x:bK,mem[b']?=some (some x)->∃x':bK,mem'[b']?=some (some x')/\x'.gen=x.gen/\x'.frz=x.frz/\x'.row.isCells=x.row.isCells)/\(mem[b']?=some none->mem'[b']?=some none)
theorem Ax{w:World}{m:Nat}{vs:List AV}: ∀{n:Nat} {G:Gh} {mem mem':aK},aH G w mem->nL m vs n mem=some mem'->∃W,zZ G w mem m vs W mem'
 |0,G,mem,mem',hM,h=>by
  obtain rfl:=ya h;exact⟨G,hM,rfl,rfl,λ_ _ _=>rfl,λ_ _ _ _ h=>h,λN _=>⟨λx H=>⟨x,H,rfl,rfl,rfl⟩,λh=>h⟩⟩
 |n+1,G,mem,mem',hM,h=>by
  simp only[nL]at h;split at h
  ·obtain rfl:=ya h;exact⟨G,hM,rfl,rfl,λ_ _ _=>rfl,λ_ _ _ _ h=>h,λN _=>⟨λx H=>⟨x,H,rfl,rfl,rfl⟩,λh=>h⟩⟩
  ·rename_i q hq;rw[bind_some]at h;obtain⟨mem1,hg,h⟩:=h;obtain⟨j,gen,frz,e,xs,hs,hh,Z,h2,h3,K⟩:=Al hq;rw[yc1]at Z;subst Z
   -- the box that is given up
   have J: ∀b0,pI hh.2.2=some b0->m≤b0/\cP b0 (AV.refsAll vs++cJ mem)=1:=by
    intro b0 U;unfold mB at K;rw[U]at K;simp only[yc]at K;exact⟨cO.1 K.1.1,bN.1 K.1.2⟩
   obtain⟨b0,V,n1,n2,n3,⟨hh',e',xs',hs',gen',frz',k1,k2,k3⟩⟩:=Od (vs:=vs) hM hg (λe2 xs2 hs2 gen2 frz2 hh2 b0 a1 M O=>by
    rw[h2]at a1;simp only[Option.some.injEq,bK.mk.injEq,aZ.own.injEq]at a1;obtain⟨_,_,_,_,rfl⟩:=a1;rw[h3]at M;obtain rfl:=ya M
    exact(J b0 O).2)
   rw[h2]at k1;simp only[Option.some.injEq,bK.mk.injEq,aZ.own.injEq]at k1;obtain⟨_,_,_,_,rfl⟩:=k1;rw[h3]at k2;obtain rfl:=ya k2;have hm0:=(J b0 k3).1;obtain⟨W,hG⟩:=Ax V h;refine⟨W,hG.memr,hG.mine,hG.prot,λb g U=>?_,λj y v hy hv=>hG.vals j y v hy (hv.drop (λhr=>n1 (fS hy hr))),λN Y=>?_⟩
   ·rw[hG.loc b g U,Gh.drop_loc (by omega)]
   ·obtain⟨p1,p2⟩:=n3 N (by omega);obtain⟨r1,r2⟩:=hG.old N Y;refine⟨λx H=>?_,λH=>r2 (p2 H)⟩;obtain⟨x1,a1,M,O,a4⟩:=p1 x H;obtain⟨x2,c1,c2,c3,c4⟩:=r1 x1 a1;exact⟨x2,c1,by rw[c2,M],by rw[c3,O],by rw[c4,a4]⟩
theorem aH.drop{G:Gh}{w:World}{mem:aK}{b0:Nat}(hM:aH G w mem)(h0:cP b0 (cJ mem)=0):aH (G.drop b0) w (mem.set b0 none):=by
 have H: ∀{b:Nat} {x:bK},(mem.set b0 none)[b]?=some (some x)->b≠b0/\mem[b]?=some (some x):=by
  intro b x h;by_cases e:b=b0
  ·subst e;by_cases M:b<mem.length
   ·rw[yt M]at h;cases h
   ·rw[yd1 (by rw[yt2];omega)]at h;cases h
  ·rw[yo (λx=>e x.symm)]at h;exact⟨e,h⟩
 have K: ∀{b:Nat} {x:bK} {B:Nat},b≠b0->eT (G.drop b0) b x B->eT G b x B:=by
  rintro b x B M ⟨L,V,hB⟩
  rw[Gh.drop_loc M]at V;exact⟨L,V,hB⟩
 have U: ∀{b:Nat} {x:bK},mem[b]?=some (some x)->b0∉x.row.refs:=by
  intro b x J hr;have h1:=lD (b:=b0) J;have h2:=jP hr;omega
 refine⟨λb x h=>?_,λb g h=>?_,λb x g h hlt=>?_,λb b' x x' L L' B h Z V W hk hk'=>?_,λb b' x x' B i c B' h k hi Z k'=>?_,λb b' x x' B C i c i' c' B' h k hi Z k' hi'=>?_,hM.own,hM.lab,hM.away,hM.glob.mono (λ_ _ h=>h) λ_ _ _=>rfl⟩
 ·obtain⟨M,J⟩:=H h;have Y:=hM.box b x J;obtain⟨o,a0,V,ha0,hm⟩:=Y.loc;refine⟨Y.e,o,a0,by rw[Gh.drop_loc M];exact V,ha0,?_⟩;cases o with
  |none=>exact hm
  |some B=>
   obtain⟨h1,h2,h3,h4,h5⟩:=hm;exact⟨h1,h2,h3,h4.drop (U J),h5⟩
 ·by_cases e:b=b0
  ·subst e;simp[Gh.drop]
  ·rw[Gh.drop_loc e];refine hM.unset b g λx J=>h x ?_;rw[yo (λx=>e x.symm)];exact J
 ·obtain⟨M,J⟩:=H h;rw[Gh.drop_loc M];exact hM.gens b x g J hlt
 ·obtain⟨M,J⟩:=H h;obtain⟨O,N⟩:=H Z;rw[Gh.drop_loc M]at V;rw[Gh.drop_loc O]at W;exact hM.apart b b' x x' L L' B J N V W hk hk'
 ·obtain⟨M,J⟩:=H h;obtain⟨O,N⟩:=H Z;exact hM.inA b b' x x' B i c B' J (K M k) hi N (K O k')
 ·obtain⟨M,J⟩:=H h;obtain⟨O,N⟩:=H Z;exact hM.inB b b' x x' B C i c i' c' B' J (K M k) hi N (K O k') hi'
theorem zZ.refl{G:Gh}{w:World}{mem:aK}{m:Nat}{vs:List AV}(hM:aH G w mem):zZ G w mem m vs G mem:=
 ⟨hM,rfl,rfl,λ_ _ _=>rfl,λ_ _ _ _ h=>h,λb' _=>⟨λx H=>⟨x,H,rfl,rfl,rfl⟩,λh=>h⟩⟩
theorem zZ.trans{G Z Y:Gh}{w:World}{mem J H:aK}{m:Nat}{vs:List AV}(N:zZ G w mem m vs Z J)(K:zZ Z w J m vs Y H):zZ G w mem m vs Y H:=by
 refine⟨K.memr,K.mine.trans N.mine,K.prot.trans N.prot,λb g V=>(K.loc b g V).trans (N.loc b g V),λj y v U hv=>K.vals j y v U (N.vals j y v U hv),λW M=>?_⟩;obtain⟨p1,p2⟩:=N.old W M;obtain⟨r1,r2⟩:=K.old W M;refine⟨λx O=>?_,λO=>r2 (p2 O)⟩;obtain⟨x1,a1,a2,a3,a4⟩:=p1 x O;obtain⟨x2,c1,c2,c3,c4⟩:=r1 x1 a1;exact⟨x2,c1,by rw[c2,a2],by rw[c3,a3],by rw[c4,a4]⟩
theorem rV{w:World}{m:Nat}{vs:List AV}: ∀{n:Nat} {G:Gh} {mem:aK},aH G w mem->∃M,zZ G w mem m vs M (sP m vs n mem)
 |0,G,mem,hM=>⟨G,.refl hM⟩
 |b+1,G,mem,hM=>by
  simp only[sP];cases hc:(Nat.ble m b&&Pr mem b&&Nat.beq (cP b (AV.refsAll vs++cJ mem)) 0)with
  |false=>exact rV hM
  |true=>
   simp only[yg];simp only[yc]at hc;have Z:=cO.1 hc.1.1;have U:=bN.1 hc.2;rw[eQ]at U;have J:=hM.drop (b0:=b) (by omega);have h1:zZ G w mem m vs (G.drop b) (mem.set b none):=by
    refine⟨J,rfl,rfl,λO g N=>Gh.drop_loc (by omega),λj y v W Y=>Y.drop (λhr=>?_),λO N=>?_⟩
    ·have:=jP (fS W hr);omega
    ·have H:b≠O:=by omega
     exact⟨λx K=>⟨x,by rw[yo H];exact K,rfl,rfl,rfl⟩,λK=>by rw[yo H];exact K⟩
   obtain⟨M,V⟩:=rV (n:=b) J;exact⟨M,h1.trans V⟩
theorem Ew{w:World}{m:Nat}{vs:List AV}{G:Gh}{mem mem':aK}(hM:aH G w mem)(h:D3 m vs mem=some mem'): ∃J,zZ G w mem m vs J mem':=by
 obtain⟨G1,H⟩:=rV (m:=m) (vs:=vs) (n:=mem.length) hM;obtain⟨K,M⟩:=Ax H.memr h;exact⟨K,H.trans M⟩
end Go.Ab
end
section
namespace Go.Ab
variable [cF]
theorem E3: ∀{n i:Nat} {ids:List Nat} {j:Nat},zF i n ids=true->j<n->ids[j]?=some (i+j)
 |0,i,ids,j,_,h=>by omega
 |n+1,i,[],j,h,_=>by simp[zF]at h
 |n+1,i,b::r,j,h,hj=>by
  simp only[zF,yc]at h;cases j with
  |zero=>simp[bN.1 h.1]
  |succ j=>rw[ym1,E3 h.2 (by omega)];congr 1;omega
theorem zR: ∀{old:List (Option Bool)} {mem:aK} {j:Nat},pD old mem=true->
  (∀k,old[j]?=some (some k)->∃x,mem[j]?=some (some x)/\x.row.isCells=k/\(k=true->x.gen=0))/\(old[j]?=some none->mem[j]?=some none)
 | [],mem,j,h=>by simp
 |some k::r,[],j,h=>by simp[pD]at h
 |none::r,[],j,h=>by simp[pD]at h
 |some k::r,none::m,j,h=>by simp[pD]at h
 |none::r,some x::m,j,h=>by simp[pD]at h
 |none::r,none::m,0,h=>by simp
 |none::r,none::m,j+1,h=>by
  simp only[pD]at h;simpa using zR (j:=j) h
 |some k::r,some x::m,0,h=>by
  simp only[pD,yc]at h;refine⟨λk' H=>?_,by simp⟩;simp at H;subst H;refine⟨x,rfl,?_,λH=>?_⟩
  ·cases k<;>simp_all
  ·subst H;simp at h;exact h.1.2
 |some k::r,some x::m,j+1,h=>by
  simp only[pD,yc]at h;simpa using zR (j:=j) h.2
theorem AA{j n:Nat}(h:n≤j):Nat.blt j n=false:=by
 cases H:Nat.blt j n with
 |false=>rfl
 |true=>have:=cO.1 (show Nat.ble (j+1) n=true from H);omega
theorem Ed{keep:Bool}{G:Gh}{w:World}{mem:aK}{old:List (Option Bool)}{vs:List AV}{r:List AV×aK}(hM:aH G w mem)(h:wC keep old vs mem=some r):
  ∃f N Z,r.1=AV.renAll f vs/\Z.mine=G.mine/\Z.prot=G.prot/\N.prot=G.prot/\aH Z w r.2/\Ey N Z f/\(∀(j:Nat) (y:AV) (v:Value),vs[j]?=some y->VR G w y v->VR N w y v)/\
   (∀(j:Nat) (k:Bool),old[j]?=some (some k)->∃y:bK,r.2[j]?=some (some y)/\y.row.isCells=k/\∀L,G.loc j 0=some L->Z.loc j 0=some L)/\
   (∀(j:Nat) (y:bK),old.length≤j\/y.row.isCells=true->r.2[j]?=some (some y)->y.gen=0)/\(∀j:Nat,old[j]?=some none->r.2[j]?=some none):=by
 unfold wC at h;rw[bind_some]at h;obtain⟨H,hset,h⟩:=h;obtain⟨N,hG⟩:=Ew hM hset;have J:=hG.memr;generalize gQ H (dL H (old.length+(AV.refsAll vs).length)) (p0 0 old.length++AV.refsAll vs) []=ids at h;simp only at h;rw[aA]at h;obtain⟨hg,h⟩:=h;simp only[yc]at hg;obtain⟨⟨g1,g2⟩,g3⟩:=hg;obtain rfl:=ya h;have O: ∀j,j<old.length->ids[j]?=some j:=λj V=>by rw[E3 g3 V,yc1]
 refine⟨fU old.length keep H ids,N,⟨wI old.length keep N H ids,N.prot,N.mine⟩,rfl,hG.mine,hG.prot,hG.prot,?_,Gx rfl,hG.vals,λj k V=>?_,λj y Y hy=>?_,λj V=>?_⟩
 ·refine H4 J g2 rfl (λ_ _ _ h=>h) (λb x B _ K hf hB=>let ⟨_,_,_,_,_,_,_,h⟩:=J.blk K hB;h hf) (λb x B _ K hB=>let ⟨_,_,_,h,_⟩:=J.blk K hB;h) (λb x B i c B' _ K hB hi=>⟨(J.inn K hB hi).1,(J.inn K hB hi).2.2.2⟩) J.own J.lab J.away
 ·have M:=(yd.1 V).1;obtain⟨x,K,hk,h0⟩:=(zR (j:=j) g1).1 k V;refine⟨{gen:=gA old.length keep x.row.isCells j x.gen,frz:=x.frz,row:=x.row.ren (fU old.length keep H ids)},?_,by simp only[dG];exact hk,λL hL=>?_⟩
  ·rw[e9,O j M];simp[K]
  ·rw[<-hG.loc j 0 M]at hL;show wI old.length keep N H ids j 0=some L;simp only[wI,O j M,yb,lJ.2 ⟨x,K,rfl⟩,nS K];split
   ·rename_i hz;have W:x.gen=0:=by
     cases hc:x.row.isCells with
     |true=>exact h0 (by rw[<-hk];exact hc)
     |false=>
      rw[hc]at hz;simp only[gA,show Nat.blt j old.length=true from cO.2 M,yc3,yz3,yg]at hz;cases U:(keep&&Nat.beq x.gen 0)with
      |true=>simp only[yc]at U;exact bN.1 U.2
      |false=>rw[U]at hz;cases hz
    rw[W];exact hL
   ·rw[if_pos (by simp[M])];exact hL
 ·obtain⟨b,x,_,_,rfl⟩:=dU hy;simp only[dG]at Y;simp only[gA];rcases Y with h|h
  ·rw[AA h];rfl
  ·rw[h];simp
 ·have K:=(zR (j:=j) g1).2 V;rw[e9,O j (yd.1 V).1];simp[K]
def Gh.lend(G:Gh)(S:Nat->Nat->Prop):Gh:={G with prot:=fun β B o=>G.prot β B o\/(β=true/\S B o)}
theorem c5.lend(G:Gh)(S:Nat->Nat->Prop)(hS: ∀B o,S B o->G.mine B):c5 G (G.lend S):=⟨rfl,λ_ _ _ h=> .inl h,λ_ _ _ h=>h,λ_ B o h=>h.imp id (λh=>hS B o h.2)⟩
section
variable {P:Program}
theorem QL{mem:aK}{n:Nat}{l:LK}{v:AV}{r:Bool×PV×List Nat}(h:bD P mem n l v=some r)(H:(∃b g,v= .msw b g)\/(∃b g o m,v= .ms b g o m)):r.2.1.isSl=true:=by
 have hI: ∀{k:IntKind} {b:Nat} {w:aL} {r:Bool×PV×List Nat},bD.treeInts k b w=some r->r.2.1.isSl=true:=by
  intro k b w r h;unfold bD.treeInts at h;split at h
  ·rw[aA]at h;obtain⟨_,h⟩:=h;obtain rfl:=ya h;rfl
  ·rw[aA]at h;obtain⟨_,h⟩:=h;obtain⟨xs,_,rfl⟩:=ye.1 h;rfl
  ·simp at h
 have hS: ∀{f:LK->AV->Option (Bool×PV×List Nat)} {t:TypeId} {e b:Nat} {w:aL} {r:Bool×PV×List Nat},bD.treeSl P f t e b w=some r->r.2.1.isSl=true:=by
  intro f t e b w r h;unfold bD.treeSl at h;split at h
  ·rw[aA]at h;obtain⟨_,h⟩:=h;obtain rfl:=ya h;rfl
  ·rw[aA]at h;obtain⟨_,h⟩:=h;rw[bind_some]at h;obtain⟨_,_,h⟩:=h;obtain⟨xs,_,rfl⟩:=ye.1 h;rfl
  ·simp at h
 cases n with
 |zero=>simp[bD]at h
 |succ n=>
  rcases H with ⟨b,g,rfl⟩|⟨b,g,o,m,rfl⟩
  ·cases l<;>simp only[bD]at h<;>first
    |(simp at h;done)
    |(rw[bind_some]at h;obtain⟨x,_,h⟩:=h;exact hI h)
    |(rw[bind_some]at h;obtain⟨x,_,h⟩:=h;exact hS h)
  ·cases l<;>simp only[bD]at h<;>first
    |(simp at h;done)
    |(rw[bind_some]at h;obtain⟨x,_,h⟩:=h;rw[bind_some]at h;obtain⟨y,_,h⟩:=h;exact hI h)
    |(rw[bind_some]at h;obtain⟨x,_,h⟩:=h;rw[bind_some]at h;obtain⟨y,_,h⟩:=h;exact hS h)
theorem Oi{mem:aK}{l:LK}{v:AV}{r:Bool×PV×List Nat}(h:kA P mem l v=some r)(H:(∃b g,v= .msw b g)\/(∃b g o m,v= .ms b g o m)):r.2.1.isSl=true:=by
 unfold kA at h;split at h
 ·split at h
  ·rw[aA]at h;obtain⟨_,h⟩:=h;obtain rfl:=ya h;rfl
  ·cases h
 ·exact QL h H
theorem oE{G:Gh}{w:World}{mem:aK}{S:List Nat}{l:LK}{v:AV}{r:AV×List Nat}{cv:Value}(hM:aH G w mem)(h:iG P mem l v=some r)(N:VR G w v cv)(hS: ∀b∈r.2,b∈S):
  VR (G.lend (aW G w mem S)) w r.1 cv:=by
 have M: ∀{q:Bool×PV×List Nat},kA P mem l v=some q->r=(.imm true q.2.1,q.2.2)->((∃b g,v= .msw b g)\/(∃b g o m,v= .ms b g o m))->VR (G.lend (aW G w mem S)) w r.1 cv:=by
  intro q J hr hm;subst hr;obtain⟨O,_,_⟩:=E0 hM J N;refine .imm true _ _ (O.mono (λB o H=>?_) (λ_ _ _=>rfl)) (Oi J hm);rcases H with H|H
  ·left;cases K:q.1 with
   |true=>rw[K]at H;exact H
   |false=>rw[K]at H;exact hM.lab _ _ H
  ·exact .inr ⟨rfl,H.mono hS⟩
 unfold iG at h;split at h
 ·obtain⟨q,J,hr⟩:=ye.1 h;exact M J hr.symm (.inl ⟨_,_,rfl⟩)
 ·obtain⟨q,J,hr⟩:=ye.1 h;exact M J hr.symm (.inr ⟨_,_,_,_,rfl⟩)
 ·obtain rfl:=ya h;exact N.mono (c5.lend G _ hM.inBoxes) (Ev.refl G w)
theorem vI{G:Gh}{w:World}{mem:aK}{S:List Nat}(hM:aH G w mem): ∀{ls:List LK} {vs:List AV} {r:List AV×List Nat} {us:List Value},b6 P mem ls vs=some r->iW G w vs us->(∀b∈r.2,b∈S)->
  iW (G.lend (aW G w mem S)) w r.1 us
 | [],[],r,us,h,J,_=>by
  simp[b6]at h;subst h;exact⟨J.1,λj y H=>by simp at H⟩
 | [],v::vs,r,us,h,_,_=>by simp[b6]at h
 |l::ls,[],r,us,h,_,_=>by simp[b6]at h
 |l::ls,v::vs,r,[],h,J,_=>by simp[iW]at J
 |l::ls,v::vs,r,u::us,h,J,hS=>by
  simp only[b6]at h;rw[bind_some]at h;obtain⟨a,N,h⟩:=h;rw[bind_some]at h;obtain⟨b,K,h⟩:=h;obtain rfl:=ya h;have O:=oE hM N (J.2 0 v rfl) (λb K=>hS b (yz1 _ K));have M:=vI hM K (us:=us) ⟨by simpa using J.1,λj y H=>by simpa using J.2 (j+1) y (by simpa using H)⟩ (λb K=>hS b (ya2 _ K));refine⟨by simp[M.1],λj y H=>?_⟩;cases j with
  |zero=>simp at H;subst H;exact O
  |succ j=>simpa using M.2 j y (by simpa using H)
theorem OI{G:Gh}{w:World}{mem:aK}{S:List Nat}{t:TypeId}{v:AV}{r:AV×List Nat}{cv:Value}(hM:aH G w mem)(h:lend P mem t v=some r)(K:VR G w v cv)(hS: ∀b∈r.2,b∈S):
  VR (G.lend (aW G w mem S)) w r.1 cv:=by
 have H:=fun{a:AV} {u:Value} (h:VR G w a u)=>h.mono (c5.lend G _ (hM.inBoxes (ids:=S))) (Ev.refl G w);unfold lend at h;split at h
 ·rw[bind_some]at h;obtain⟨l,U,h⟩:=h;exact oE hM h K hS
 ·rw[bind_some]at h;obtain⟨l,U,h⟩:=h;exact oE hM h K hS
 ·rename_i cs;cases J:Iw cs with
  |true=>
   rw[J]at h;simp only[yg]at h;rw[bind_some]at h;obtain⟨ls,N,h⟩:=h;obtain⟨q,O,rfl⟩:=ye.1 h;obtain⟨cvs,rfl,hc⟩:=K.agg_inv;have:=vI (us:=cvs.toList) hM O ⟨by simpa using hc.1,λj y M=>by rw[eL];exact hc.2 j y M⟩ hS;exact .agg _ cvs (by simpa using this.1) (λj y M=>by rw[<-eL];exact this.2 j y M)
  |false=>
   rw[J]at h;simp only[yh]at h;obtain rfl:=ya h;exact H K
 ·obtain rfl:=ya h;exact H K
theorem Ao{G:Gh}{w:World}{mem:aK}{S:List Nat}(hM:aH G w mem): ∀{ts:List TypeId} {vs:List AV} {r:List AV×List Nat} {us:List Value},gN P mem ts vs=some r->iW G w vs us->(∀b∈r.2,b∈S)->
  iW (G.lend (aW G w mem S)) w r.1 us
 | [],[],r,us,h,J,_=>by
  simp[gN]at h;subst h;exact⟨J.1,λj y H=>by simp at H⟩
 | [],v::vs,r,us,h,_,_=>by simp[gN]at h
 |l::ls,[],r,us,h,_,_=>by simp[gN]at h
 |l::ls,v::vs,r,[],h,J,_=>by simp[iW]at J
 |l::ls,v::vs,r,u::us,h,J,hS=>by
  simp only[gN]at h;rw[bind_some]at h;obtain⟨a,N,h⟩:=h;rw[bind_some]at h;obtain⟨b,K,h⟩:=h;obtain rfl:=ya h;have O:=OI hM N (J.2 0 v rfl) (λb K=>hS b (yz1 _ K));have M:=Ao hM K (us:=us) ⟨by simpa using J.1,λj y H=>by simpa using J.2 (j+1) y (by simpa using H)⟩ (λb K=>hS b (ya2 _ K));refine⟨by simp[M.1],λj y H=>?_⟩;cases j with
  |zero=>simp at H;subst H;exact O
  |succ j=>simpa using M.2 j y (by simpa using H)
theorem MK{G:Gh}{w:World}{mem:aK}{S:List Nat}(hM:aH G w mem){keep:Bool}{ts:List TypeId}{vs:List AV}{r:List AV×List Nat}{us:List Value}(h:LA P keep mem ts vs=some r)(H:iW G w vs us)(hS: ∀b∈r.2,b∈S):
  iW (G.lend (aW G w mem S)) w r.1 us:=by
 cases keep with
 |true=>
  obtain rfl:=ya h;exact⟨H.1,λj y J=>(H.2 j y J).mono (c5.lend G (aW G w mem S) hM.inBoxes) (Ev.refl G w)⟩
 |false=>exact Ao hM h H hS
structure TW (G:Gh) (w:World) (mem:aK) (r:AV×aK) (G':Gh) (w':World) (cv:Value):Prop where
 v:VR G' w' r.1 cv
 ev:Ev G w w'
 mine:G'.mine=G.mine
 prot: ∀β B o,G.prot β B o->G'.prot β B o
 new: ∀β B o,G'.prot β B o->G.prot β B o\/G.mine B
 memR:aH G' w' r.2
 gens: ∀(j:Nat) (y:bK),mem.length≤j\/y.row.isCells=true->r.2[j]?=some (some y)->y.gen=0
 kept: ∀(j:Nat) (x:bK),mem[j]?=some (some x)->∃y:bK,r.2[j]?=some (some y)/\y.row.isCells=x.row.isCells/\∀L,G.loc j 0=some L->G'.loc j 0=some L
 nones: ∀j:Nat,mem[j]?=some none->r.2[j]?=some none
def kW(P:Program)(C:bX):Prop:= ∀g args mem r,C g args mem=some r->∀G w vargs,aH G w mem->(∀(j:Nat) (x:bK),mem[j]?=some (some x)->x.gen=0)->pY G w args vargs->
 (callFunc g vargs).run P w= .ok (.enter g vargs) w/\Calls P g vargs w λe w'=> ∃G' cv,e= .returned cv/\TW G w mem r G' w' cv
def m6(G:Gh)(mem:aK)(m:Nat)(B _o:Nat):Prop:= ∃(b:Nat) (x:bK) (L:Ff),m≤b/\mem[b]?=some (some x)/\G.loc b x.gen=some L/\L.blk=some B
theorem q6{G:Gh}{w:World}{mem:aK}{m:Nat}{v:AV}{cv:Value}(hM:aH G w mem)(V:VR G w v cv):VR (G.frz (m6 G mem m)) w (v.frz m mem) cv:=by
 have hg:c5 G (G.frz (m6 G mem m)):=c5.frz G _ (by rintro B o ⟨b,x,L,_,hx,W,hB⟩;exact hM.mine hx W hB);have J:=fun{a:AV} {u:Value} (h:VR G w a u)=>h.mono hg (Ev.refl G w);unfold AV.frz;split
 ·rename_i b g;cases hle:Nat.ble m b with
  |false=>simp only[yh];exact J V
  |true=>
   simp only[yg];split
   ·rename_i x hx;obtain⟨hm,rfl⟩:=box?_some hx;have M:=hM.box b x hm;split
    ·rename_i k xs K;cases V with
     |msw _ _ cap L B W hb hn hf=>
      obtain⟨o,a0,H,U,O⟩:=M.loc;have N:=W;rw[H]at N;obtain rfl:=ya N;simp only at hb;subst hb;have hr:=O.2.2.2.1;rw[K]at hr hn⊢
      refine .imm false _ _ (.ints k xs B a0 cap hn λi x' hx'=>?_) rfl;exact⟨hr i x' hx',.inr ⟨b,x,_,cO.1 hle,hm,H,rfl⟩⟩
     |mswNil _ _ L W hb hn=>
      obtain⟨o,a0,H,U,O⟩:=M.loc;rw[W]at H;obtain rfl:=ya H;rw[K]at hn;obtain rfl:=yu hn;exact .imm false _ _ (.intsNil k _) rfl
    ·rename_i β e xs K;cases V with
     |msw _ _ cap L B W hb hn hf=>
      obtain⟨o,a0,H,U,O⟩:=M.loc;have N:=W;rw[H]at N;obtain rfl:=ya N;simp only at hb;subst hb;have hr:=O.2.2.2.1;have he:=M.e;obtain rfl:=U (by rw[K];rfl);rw[K]at hr hn he⊢
      obtain⟨hlen,Z⟩:=hr;have key: ∀(i:Nat) (x:PV) (c:Nat) (y:PV),xs[i]?=some x->x.cells[c]?=some y->cl w B (i*e+c)=some ((cl w B (i*e+c)).getD undef)/\((cl w B (i*e+c)).getD undef).oneCell'=true/\PR w (G.prot β) y ((cl w B (i*e+c)).getD undef):=by
       intro i x c y h1 Y;obtain⟨v,V,hv1,hv2⟩:=Z i x c y h1 Y;rw[V];exact⟨rfl,hv1,hv2⟩
      refine .imm β _ _ (.sl e xs B 0 cap (λi c=>(cl w B (i*e+c)).getD undef) he hn hlen (λi x' c y h1 Y=>?_) (λi x' c y h1 Y=>(key i x' c y h1 Y).2.1) (λi x' c y h1 Y=>(key i x' c y h1 Y).2.2.mono (λ_ _ h=> .inl h) (λ_ _ _=>rfl))) rfl;rw[yc1];exact⟨(key i x' c y h1 Y).1,.inr ⟨b,x,_,cO.1 hle,hm,H,rfl⟩⟩
     |mswNil _ _ L W hb hn=>
      obtain⟨o,a0,H,U,O⟩:=M.loc;rw[W]at H;obtain rfl:=ya H;rw[K]at hn;obtain rfl:=yu hn;exact .imm β _ _ (.slNil e _) rfl
    ·exact J V
    ·exact J V
   ·exact J V
 ·exact J V
theorem jU(m:Nat)(mem:aK): ∀vs:List AV,AV.frzAll m mem vs=vs.map (·.frz m mem)
 | []=>rfl
 |v::vs=>by simp[AV.frzAll,jU m mem vs]
theorem KA{G:Gh}{w:World}{mem:aK}{m:Nat}{v:AV}{cv:Value}(hM:aH G w mem)(M:VR G w v cv):VR (G.frz (m6 G mem m)) w (mX m mem v) cv:=by
 unfold mX;split
 ·rename_i vs;cases M with
  |tup _ cvs H h=>
   refine .tup _ cvs (by rw[jU];simpa using H) (λj y J=>?_);rw[jU,yg1]at J;obtain⟨x,K,rfl⟩:=ye.1 J;exact q6 hM (h j x K)
 ·rename_i vs;cases M with
  |agg _ cvs H h=>
   refine .agg _ cvs (by rw[jU];simpa using H) (λj y J=>?_);rw[jU,yg1]at J;obtain⟨x,K,rfl⟩:=ye.1 J;exact q6 hM (h j x K)
 ·exact q6 hM M
theorem FW{mem:aK}{m:Nat}{v:AV}(M:iL mem=false)(J:v.lent=false):(v.frz m mem).lent=false:=by
 unfold AV.frz;split
 ·rename_i b g;cases Nat.ble m b with
  |false=>exact J
  |true=>
   simp only[yg];split
   ·rename_i x K;obtain⟨hm,_⟩:=box?_some K;split
    ·rfl
    ·rename_i β e xs H;simp only[AV.lent];cases β with
     |false=>rfl
     |true=>have:=pK hm (by rw[H];rfl);rw[M]at this;cases this
    ·rfl
    ·rfl
   ·rfl
 ·exact J
theorem pW: ∀{cs:List AV},AV.lentAny cs=false↔∀y∈cs,y.lent=false
 | []=>by simp[AV.lentAny]
 |c::cs=>by simp[AV.lentAny,pW (cs:=cs)]
theorem Mf{mem:aK}{m:Nat}{v:AV}(M:iL mem=false)(H:v.lent=false):(mX m mem v).lent=false:=by
 unfold mX;split
 ·rename_i vs;simp only[AV.lent]at H⊢
  rw[pW]at H⊢
  intro y J;rw[jU]at J;obtain⟨x,K,rfl⟩:=yh3.1 J;exact FW M (H x K)
 ·rename_i vs;simp only[AV.lent]at H⊢
  rw[pW]at H⊢
  intro y J;rw[jU]at J;obtain⟨x,K,rfl⟩:=yh3.1 J;exact FW M (H x K)
 ·exact FW M H
end
end Go.Ab
end
