/- The evaluator. -/
import Derived.Test.YtjjjbgicidhpfaaDoorLib2
set_option linter.unusedVariables false
set_option linter.unusedSectionVars false
set_option linter.unusedSimpArgs false
section
namespace Go.Ab
variable [cS]
section
variable {P:Program}
variable {G:Gh} {w:World} {mem:aO} {o:Oper} {a:Act} {out:dY}
theorem N4{c x y r:AV}{K N J:Value}(h:Ku c x y=some r)(hc:VR G w c K)(M:VR G w x N)(H:VR G w y J):
  ∃t,K= .bool t/\VR G w r (if t then N else J):=by
 unfold Ku at h;split at h
 ·rename_i t;obtain rfl:=hc.lit_inv;refine⟨t,rfl,?_⟩;split at h
  ·obtain rfl:=yb h;obtain rfl:=M.lit_inv;obtain rfl:=H.lit_inv;cases t<;>exact .lit _ rfl
  ·cases t with
   |true=>simp only[yh]at h;obtain rfl:=yb h;exact M
   |false=>simp only[yg]at h;obtain rfl:=yb h;exact H
 ·simp at h
theorem Fe{x:Operand}(h:l9 x=true):x= .const (.slice none 0 0):=by
 unfold l9 at h;split at h
 ·rfl
 ·cases h
theorem D0{t:TypeId}{p:PV}(h:wY P t=some p):(∃k,p= .ints k [])\/∃e,p= .sl e []/\1≤e:=by
 unfold wY at h;rw[bind_some]at h;obtain⟨et,_,h⟩:=h;split at h
 ·rename_i k _;exact .inl ⟨k,(yb h).symm⟩
 ·rw[bind_some]at h;obtain⟨e,_,h⟩:=h;rw[aA]at h;exact .inr ⟨e,(yb h.2).symm,dA.1 h.1⟩
theorem I3{boxed vars:Bool}{ρ:Operand->Option AV}{rs:Nat}{t:TypeId}{x:Operand}(hM:aJ G w mem)(O:l9 x=true->mem[rs]?=some none)(Y:TX G w ρ a)
  (K:execOp a.eval o=pure (Next.value (a.eval x))) (h:zX P boxed vars ρ t rs x=some out):rR P G w mem o a out:=by
 unfold zX at h;cases hc:(l9 x&&boxed&&!vars)with
 |true=>
  rw[hc]at h;simp only[yh]at h;simp only[yc]at hc;obtain rfl:=Fe hc.1.1;rw[bind_some]at h;obtain⟨p,U,h⟩:=h;obtain⟨row,H,rfl⟩:=yf.1 h;have hm:=O rfl;have M:rs<mem.length:=by
   rcases yq2 rs mem.length with h|h
   ·exact h
   ·rw[yc1 h]at hm;cases hm
  have hr:1≤row.e/\row.len=0/\row.isCells=false:=by
   rcases D0 U with ⟨k,rfl⟩|⟨e,rfl,K⟩
   ·obtain rfl:=yb H;exact⟨yb1 _,rfl,rfl⟩
   ·obtain rfl:=yb H;exact⟨K,rfl,rfl⟩
  obtain⟨G',W,hl,N⟩:=Ff (b:=rs) (g':=0) (row':=row) hM M (λg _=>hM.unset rs g (λy V=>by rw[hm]at V;cases V)) hr.1 hr.2.1 hr.2.2;refine nI.opW ⟨G',w,.value (a.eval (.const (.slice none 0 0))),_,by rw[K];simp,.inl rfl,?_,W,Ev.refl G w,by simpa[dY.apply,aR]using N⟩;exact .mswNil rs 0 _ hl rfl hr.2.1
 |false=>
  rw[hc]at h;simp only[yg]at h;rw[bind_some]at h;obtain⟨v,Z,h⟩:=h;have J:=Y _ _ Z;split at h
  ·cases boxed with
   |true=>simp only[yh]at h;obtain rfl:=yb h;exact rR.plain hM K rfl rfl J
   |false=>
    simp only[yg]at h;obtain⟨p,U,rfl⟩:=yf.1 h;refine rR.plain hM K rfl rfl ?_;rw[J.lit_inv];rcases D0 U with ⟨k,rfl⟩|⟨e,rfl,_⟩
    ·exact .imm _ _ _ (.intsNil k _) rfl
    ·exact .imm _ _ _ (.slNil e _) rfl
  ·obtain rfl:=yb h;exact rR.plain hM K rfl rfl J
theorem LV{ρ:Operand->Option AV}{t:TypeId}{x ix:Operand}(hM:aJ G w mem)(hρ:TX G w ρ a)
  (he:execOp a.eval o=(do pure (Next.value (<-Instr.index t (a.eval x) (a.eval ix))))) (h:sM P ρ t x ix=some out):rR P G w mem o a out:=by
 unfold sM at h;rw[bind_some]at h;obtain⟨vx,hx,h⟩:=h;rw[bind_some]at h;obtain⟨vi,H,h⟩:=h;have K:=hρ _ _ hx;have J:=hρ _ _ H;split at h
 ·rename_i cs k i;split at h
  ·rename_i n e hu;rw[bind_some]at h;obtain⟨ag,V,h⟩:=h;rw[bind_some]at h;obtain⟨s,hs,h⟩:=h;rw[aA]at h;obtain⟨hg,h⟩:=h;simp only[yc,yx,decide_eq_true_eq]at hg;obtain⟨⟨⟨O,W⟩,Y⟩,hn⟩:=hg;obtain rfl:=bZ.1 W;obtain⟨v,hv,rfl⟩:=yf.1 h;obtain⟨cvs,Z,U⟩:=K.agg_inv;have hel:=U.2 _ _ hv;refine rR.still hM he rfl rfl (cv:=cvs.getD i.toNat undef) ?_ hel;rw[Z,J.lit_inv];have M:i.toNat<cvs.size:=by
    rw[<-U.1];exact(yd.1 hv).1
   have:=N1 (P:=P) V hs (cs:=cvs) (o:=i.toNat) w (.inr M);rw[O]at this;simp only[yt2,if_false]at this;simp only[Instr.index,asIntOf,Sem.run_bind,Sem.run_pure,Result.andThen_ok,run_underlying hu,Y,hn,and_self,if_true,fN hs,yt3,this]
  ·cases h
 ·rename_i s k i;split at h
  ·rename_i hu;obtain⟨b,N,rfl⟩:=yf.1 h;refine rR.still hM he rfl rfl (cv:= .int .u8 b) ?_ (.lit _ rfl);rw[K.lit_inv,J.lit_inv];obtain⟨Y,M,N⟩:=E5 N;have hs:s[i.toNat]?.map (λc:UInt8=>(c.toNat:Int))=some b:=by
    unfold c7 at N;rw[yh1]at N;rw[<-N,yx1];by_cases H:i.toNat<s.size
    ·rw[getElem?_pos s _ H,getElem?_pos s.data _ H];rfl
    ·rw[getElem?_neg s _ H,getElem?_neg s.data _ H]
   obtain⟨c,hc,rfl⟩:=yf.1 hs;simp only[Instr.index,asIntOf,Sem.run_bind,Sem.run_pure,Result.andThen_ok,run_underlying hu,Y,if_true,hc]
  ·cases h
 ·cases h
theorem Rw{C:cC}{boxed raw vars:Bool}{ρ:Operand->Option AV}{rs:Nat}(hM:aJ G w mem)(W:eR o.op=true->mem[rs]?=some none)(N:TX G w ρ a)
  (hcall: ∀{raw keep:Bool} {g:FuncId} {ts:List TypeId} {fi args ca:List AV} {out:dY} {fv av cv:Array Value},BE P C raw keep g ts fi args ca mem=some out->rZ G w fi fv->rZ G w args av->rZ G w ca cv->Pr P G w mem g (fv++av++cv) out)
  (h:Ra P C boxed raw vars o ρ mem rs=some out):rR P G w mem o a out:=by
 unfold Ra IL CC Nd Do iA AS OQ NJ Ux IR En A6 oN C8 AH sY Fp at h;split at h
 ·rename_i x H;exact I3 hM (λhn=>W (by rw[H];exact hn)) N (by simp only[execOp,H]) h
 ·rename_i x H;exact I3 hM (λhn=>W (by rw[H];exact hn)) N (by simp only[execOp,H]) h
 ·rename_i c x y H;rw[bind_some]at h;obtain⟨vc,hc,h⟩:=h;rw[bind_some]at h;obtain⟨vx,V,h⟩:=h;rw[bind_some]at h;obtain⟨vy,hy,h⟩:=h;obtain⟨r,hr,rfl⟩:=yf.1 h;obtain⟨t,ht,U⟩:=N4 hr (N _ _ hc) (N _ _ V) (N _ _ hy);refine nI.opW ⟨G,w,_,_,?_,.inl rfl,U,dH.refl G,Ev.refl G w,by simpa[dY.apply,aR]using hM⟩;simp only[execOp,H,ht,asBool];cases t<;>simp
 ·rename_i t H;rw[bind_some]at h;obtain⟨z,hz,h⟩:=h;rw[aA]at h;obtain⟨O,h⟩:=h;simp only[yc]at O;obtain rfl:=yb h;exact(Qf hM H (W (by rw[H];rfl)) hz (dA.1 O.1) O.2).opW
 ·rename_i t x H;rw[bind_some]at h;obtain⟨v,U,h⟩:=h;rw[bind_some]at h;obtain⟨n,hn,h⟩:=h;rw[aA]at h;obtain⟨O,h⟩:=h;simp only[yc]at O;obtain rfl:=yb h;exact(T3 hM H (W (by rw[H];rfl)) (N _ _ U) (bZ.1 O.1.1) (dA.1 O.1.2) O.2).opW
 ·rename_i t parts H;rw[bind_some]at h;obtain⟨ps,hps,h⟩:=h;obtain⟨v,U,rfl⟩:=yf.1 h;obtain⟨cv,M,J⟩:=Lz U (BT N hps);exact rR.still hM (by simp only[execOp,H]<;>rfl) rfl rfl M J
 ·rename_i t len parts H;rw[bind_some]at h;obtain⟨et,het,h⟩:=h;rw[bind_some]at h;obtain⟨z,hz,h⟩:=h;rw[bind_some]at h;obtain⟨s,hs,h⟩:=h;rw[bind_some]at h;obtain⟨ps,hps,h⟩:=h;rw[aA]at h;obtain⟨O,h⟩:=h;rw[bind_some]at h;obtain⟨wv,hwv,h⟩:=h;rw[aA]at h;obtain⟨hwe,h⟩:=h;obtain⟨ov,hov,rfl⟩:=yf.1 h;exact rR.value (by simp only[execOp,H]<;>rfl) (Hf hM (W (by rw[H];rfl)) het hz hs O hwv hwe hov (BT N hps))
 ·rename_i t x H;rw[bind_some]at h;obtain⟨v,U,h⟩:=h;obtain⟨r,rd,rfl,cv,M,J⟩:=F7 hM h (N _ _ U);exact rR.still hM (by simp only[execOp,H]<;>rfl) rfl rfl M J
 ·rename_i t x y H;rw[bind_some]at h;obtain⟨vx,V,h⟩:=h;rw[bind_some]at h;obtain⟨vy,hy,h⟩:=h;obtain⟨hov,G',w',M,O,hev,hM'⟩:=LO hM h (N _ _ V) (N _ _ hy);refine nI.opW ⟨G',w',.skip,undef,?_,.inr ⟨rfl,rfl⟩,by rw[hov];exact .lit _ rfl,O,hev,hM'⟩;simp only[execOp,H,Sem.run_bind,M,Result.andThen_ok,Sem.run_pure]
 ·rename_i x H;rw[bind_some]at h;obtain⟨v,U,h⟩:=h;have J:=N _ _ U;split at h
  ·obtain rfl:=yb h;refine rR.plain hM (cv:=a.eval x) ?_ rfl rfl J;simp only[execOp,H];generalize a.eval x=cv at J;cases J;simp only
  ·obtain rfl:=yb h;refine rR.plain hM (cv:=a.eval x) ?_ rfl rfl J;simp only[execOp,H];generalize a.eval x=cv at J;cases J;simp only
  ·obtain rfl:=yb h;refine rR.plain hM (cv:=a.eval x) ?_ rfl rfl J;simp only[execOp,H];generalize a.eval x=cv at J;cases J;simp only
  ·simp at h
 ·rename_i op t x y _ H;rw[bind_some]at h;obtain⟨vx,V,h⟩:=h;rw[bind_some]at h;obtain⟨vy,hy,h⟩:=h;obtain⟨r,hr,rfl⟩:=yf.1 h;obtain⟨cv,h1,h2,J⟩:=Um (x:=x) (y:=y) hr (N _ _ V) (N _ _ hy);refine rR.still hM (s:=do eqGuard op t x y (a.eval x) (a.eval y);binOp op t (a.eval x) (a.eval y)) (by simp only[execOp,H]) rfl rfl ?_ J;simp only[Sem.run_bind,h1,Result.andThen_ok,h2]
 ·rename_i op _ x H;rw[bind_some]at h;obtain⟨vx,V,h⟩:=h;split at h
  ·obtain⟨r,hr,rfl⟩:=yf.1 h;have hvx:=(N _ _ V).lit_inv;exact rR.still hM (by simp only[execOp,H]<;>rfl) rfl rfl (by rw[hvx];exact Sm hr) (.lit _ (MB hr))
  ·simp at h
 ·rename_i src dst x H;rw[bind_some]at h;obtain⟨vx,V,h⟩:=h;exact rR.value (by simp only[execOp,H]<;>rfl) (II hM h (N _ _ V))
 ·rename_i fn first cap H
  rw[bind_some]at h;obtain⟨fi,hfi,h⟩:=h;obtain⟨ca,hca,rfl⟩:=yf.1 h;have h1:=D6 N hfi;have h2:=D6 N hca;exact rR.still hM (by simp only[execOp,H]<;>rfl) rfl rfl (cv:= .func fn (first.map a.eval) (cap.map a.eval)) (by simp[Instr.makeFunc]) (.fn fn fi ca _ _ h1.1 h2.1 h1.2 h2.2)
 ·rename_i t l c H;rw[bind_some]at h;obtain⟨et,het,h⟩:=h;rw[bind_some]at h;obtain⟨z,hz,h⟩:=h;rw[bind_some]at h;obtain⟨vl,hl,h⟩:=h;rw[bind_some]at h;obtain⟨vc,hc,h⟩:=h;split at h
  ·rename_i k1 n k2 n';rw[aA]at h;obtain⟨O,h⟩:=h;simp only[yc,beq_iff_eq,decide_eq_true_eq]at O;obtain⟨⟨hnn,hn0⟩,hml⟩:=O;subst hnn;have hml:=dA.1 hml;obtain⟨i,zv,hi,hzv,hov⟩:=mW hz;have hzr:VR G w z zv:=oG hov;have el:=(N _ _ hl).lit_inv;have ec:=(N _ _ hc).lit_inv;obtain⟨m,rfl⟩: ∃m:Nat,n=(m:Int):=⟨n.toNat,by omega⟩
   rw[yz]at hml h;refine rR.value (s:=Instr.makeSlice t (.int k1 (m:Int)) (.int k2 (m:Int))) (by simp only[execOp,H,el,ec]) ?_;have hr:=W (by rw[H];rfl);split at h
   ·rename_i k hk;rw[bind_some]at h;obtain⟨e,he,h⟩:=h;rw[bind_some]at h;obtain⟨bytes,Z,h⟩:=h;rw[bind_some]at h;obtain⟨zs,hzs,h⟩:=h;rw[aA]at h;obtain⟨O,h⟩:=h;simp only[yc]at O;obtain rfl:=bZ.1 O.1;have hb:=dA.1 O.2;obtain⟨U,hsz⟩:=Pp (n:=m) hzs hzr;exact Ao hM hr (qK het) hi hzv (by unfold k8 at he;rw[hi]at he;simpa using he) (yb1 _) (by unfold l8 at Z;rw[hi]at Z;simp at Z;omega) hml hsz U (by simp[aP.len]) rfl h
   ·rw[bind_some]at h;obtain⟨q,hq,h⟩:=h;rw[bind_some]at h;obtain⟨e,he,h⟩:=h;rw[bind_some]at h;obtain⟨bytes,Z,h⟩:=h;rw[aA]at h;obtain⟨O,h⟩:=h;simp only[yc]at O;obtain⟨⟨⟨g1,g2⟩,g3⟩,g4⟩:=O;have g1:=dA.1 g1;have g2:=dA.1 g2;have g3:=bZ.1 g3;have g4:=qB g4;obtain⟨U,hsz⟩:=KB (n:=m) hM hq hzr g3 g1 g4;exact Ao hM hr (qK het) hi hzv (by unfold k8 at he;rw[hi]at he;simpa using he) g1 (by unfold l8 at Z;rw[hi]at Z;simp at Z;omega) hml hsz U (by simp[aP.len]) rfl h
  ·simp at h
 ·rename_i t x lo hi mx H;rw[bind_some]at h;obtain⟨vx,V,h⟩:=h;rw[bind_some]at h;obtain⟨vl,hl,h⟩:=h;rw[bind_some]at h;obtain⟨vh,hh,h⟩:=h;rw[bind_some]at h;obtain⟨vm,hm,h⟩:=h;obtain⟨h1,h2,cv,M,J⟩:=Mj hM h (N _ _ V) (pU N hl) (pU N hh) (pU N hm);exact rR.still hM (by simp only[execOp,H]<;>rfl) h1 h2 M J
 ·rename_i s x f H;rw[bind_some]at h;obtain⟨vx,V,h⟩:=h;rw[bind_some]at h;obtain⟨q,hq,h⟩:=h;have J:=N _ _ V;split at h
  ·rename_i b g i c;obtain rfl:=yb h;generalize Y:a.eval x=cv at J;cases J with
   |ptr _ _ _ _ L B hl hb=>
    refine rR.still hM (by simp only[execOp,H]<;>rfl) rfl rfl (by rw[Y];exact GO hq B _ w) ?_;rw[show∀p q r s:Nat,p+(q+r)+s=p+(q+(r+s))from λp q r s=>by omega];exact .ptr b g i (c+q.1) L B hl hb
  ·rename_i β p c;obtain rfl:=yb h;generalize Y:a.eval x=cv at J;cases J with
   |el _ _ _ B o cv hh hr=>
    refine rR.still hM (by simp only[execOp,H]<;>rfl) rfl rfl (by rw[Y];exact GO hq B _ w) ?_;rw[yk2];exact .el β p (c+q.1) B o cv hh hr
  ·simp at h
 ·rename_i s x f H;rw[bind_some]at h;obtain⟨vx,V,h⟩:=h;rw[bind_some]at h;obtain⟨q,hq,h⟩:=h;split at h
  ·rename_i cs;rw[bind_some]at h;obtain⟨ag,hag,h⟩:=h;have key: ∃v,(bif ag then guardB (Nat.ble (q.1+q.2.1) cs.length) (some (AV.agg ((cs.drop q.1).take q.2.1)))else cs[q.1]?)=some v/\out={v}:=by
    cases ag with
    |true=>
     simp only[yh]at h⊢
     rw[aA]at h;obtain⟨O,h⟩:=h;exact⟨_,by rw[O];rfl,(yb h).symm⟩
    |false=>
     simp only[yg]at h⊢
     obtain⟨v,U,rfl⟩:=yf.1 h;exact⟨v,U,rfl⟩
   obtain⟨v,U,rfl⟩:=key;obtain⟨cv,M,J⟩:=LZ hq hag (N _ _ V) U;exact rR.still hM (by simp only[execOp,H]<;>rfl) rfl rfl M J
  ·simp at h
 ·rename_i t x ix H;rw[bind_some]at h;obtain⟨vx,V,h⟩:=h;rw[bind_some]at h;obtain⟨vi,hi,h⟩:=h;split at h
  ·rename_i k i;have ei:=(N _ _ hi).lit_inv;obtain⟨v,rd,rfl,cv,M,J⟩:=L5 (k:=k) hM h (N _ _ V);exact rR.still hM (by simp only[execOp,H]<;>rfl) rfl rfl (by rw[ei];exact M) J
  ·simp at h
 ·rename_i t x ix H;exact LV hM N (by simp only[execOp,H]<;>rfl) h
 ·rename_i t ix H;rw[bind_some]at h;obtain⟨vt,ht,h⟩:=h;split at h
  ·rename_i vs;obtain⟨v,U,rfl⟩:=yf.1 h;have J:=N _ _ ht;generalize Y:a.eval t=cv at J;cases J with
   |tup _ cvs hlen hh=>
    have hix:ix<cvs.size:=by rw[<-hlen];exact(yd.1 U).1
    have:=hh ix v U;rw[yo,yg2 hix]at this;refine rR.still hM (by simp only[execOp,H]<;>rfl) rfl rfl (cv:=cvs[ix]) ?_ this;rw[Y];simp[Instr.extract,yg2 hix]
  ·simp at h
 ·rename_i c H;rw[bind_some]at h;obtain⟨args,hargs,h⟩:=h;have hav:=D6 N hargs;split at h
  ·rename_i b hc;obtain⟨s,hs,hh⟩:=IG (ty:=o.type) (consts:=c.args.map fun| .const _=>true|_=>false) hM (λhb=>W (by rw[H];subst hb;unfold eR;obtain⟨cc,_,_⟩:=c;simp only at hc;subst hc;rfl)) h hav;refine rR.value (s:=s) ?_ hh;rw[<-hs];simp only[execOp,H,resolve,hc,invoke];rfl
  ·rename_i f hc;rw[bind_some]at h;obtain⟨fv,hf,h⟩:=h;split at h
   ·rename_i g fi ca;have J:=N _ _ hf;generalize Y:a.eval f=cv at J;cases J with
    |fn _ _ _ fvs cvs h1 h2 hff hcc=>
     obtain⟨hen,hcl⟩:=hcall h ⟨h1,hff⟩ hav ⟨h2,hcc⟩;intro K Q hK;unfold Oper.wp;have V:(execOp a.eval o).run P w= .ok (.enter g (fvs++c.args.map a.eval++cvs)) w:=by
      simp only[execOp,H,resolve,hc,Deferred.ofValue,Y,Sem.run_bind,Sem.run_pure,Result.andThen_ok,invoke];exact hen
     rw[V];refine Calls.mono hcl λe w' he=>?_;obtain⟨G',cv,rfl,U,O,hev,hM'⟩:=he;exact hK G' w' cv U O hev hM'
   ·simp at h
  ·simp at h
 ·simp at h
end
end Go.Ab
end
section
namespace Go.Ab
variable [cS]
theorem eH{i c:Nat}: ∀{hs:List (Nat×Nat×AV)},mV c hs=none->aI i c hs=none
 | [],_=>rfl
 |(M,K,v)::r,h=>by
  simp only[mV]at h;cases H:Nat.beq c K with
  |true=>rw[H]at h;cases h
  |false=>
   rw[H]at h;simp only[yg]at h;have J: ¬(M=i/\K=c):=λN=>by rw[bZ.2 N.2.symm]at H;cases H
   simp only[aI,if_neg J];exact eH h
theorem By{i c:Nat}{v:AV}: ∀{hs:List (Nat×Nat×AV)},mV c hs=some (i,v)->aI i c hs=some v
 | [],h=>by cases h
 |(M,K,u)::r,h=>by
  simp only[mV]at h;cases H:Nat.beq c K with
  |true=>
   rw[H]at h;simp only[yh,Option.some.injEq,Prod.mk.injEq]at h;obtain⟨rfl,rfl⟩:=h;simp[aI,bZ.1 H]
  |false=>
   rw[H]at h;simp only[yg]at h;have J: ¬(M=i/\K=c):=λN=>by rw[bZ.2 N.2.symm]at H;cases H
   simp only[aI,if_neg J];exact By h
theorem PN{y:PV}{row:bC}(h:dG y=some row):1≤row.e/\row.isCells=false/\row.isOwn=false:=by
 cases y with
 |ints k H=>obtain rfl:=yb h;exact⟨yb1 _,rfl,rfl⟩
 |sl e H=>simp only[dG]at h;rw[aA]at h;obtain⟨J,h⟩:=h;obtain rfl:=yb h;exact⟨dA.1 J,rfl,rfl⟩
 |lit u=>cases h
 |agg cs=>cases h
theorem IT.row{G:Gh}{w:World}{B a:Nat}{r:bC}(h:IT G w B a r):jR G w B a r:=by
 cases r with
 |ints k xs=>exact h
 |pvs β e xs=>exact h
 |cells e cs=>cases h
 |own e xs hs=>cases h
theorem MX{G:Gh}{w:World}{B a:Nat}{e:Nat}{xs:List PV}{hs:List (Nat×Nat×AV)}(h:jR G w B a (.own e xs hs)){i c:Nat}{p y:PV}(J:xs[i]?=some p)(H:p.cells[c]?=some y):
  ∃v,cl w B (i*e+c)=some v/\v.oneCell'=true/\HR G w (aI i c hs) y v:=h.2.2 i p c y J H
theorem HP{m n:aO}{b:Nat}{x:bV}(h:(m++n)[b]?=some (some x)):(b<m.length/\m[b]?=some (some x))\/(m.length≤b/\n[b-m.length]?=some (some x)):=by
 by_cases H:b<m.length
 ·rw[yq H]at h;exact .inl ⟨H,h⟩
 ·rw[yy (by omega)]at h;exact .inr ⟨by omega,h⟩
def Wt:Value->Option Nat
 | .slice (some a) _ _=>some a.block
 |_=>none
def Wg:Value->Nat
 | .slice (some a) _ _=>a.off
 |_=>0
def Uy(v:Value)(row:bC):Gi:=⟨Wt v,row.e,row.len,Wg v⟩
theorem Py{G:Gh}{w:World}{mem:aO}{b:Nat}{bx:bV}{B e i c:Nat}{xs:List PV}{hs:List (Nat×Nat×AV)}{p y:PV}{row:bC}(hM:aJ G w mem)(hx:mem[b]?=some (some bx))(hrow:bx.row= .own e xs hs)(hB:fP G b bx B)
  (hp:xs[i]?=some p) (hy:p.cells[c]?=some y) (hh:aI i c hs=none) (hl:dG y=some row):
  ∃G' v,G'=G.put mem.length 0 (Uy v row)/\cl w B (i*e+c)=some v/\dH G G'/\VR G' w (.msw mem.length 0) v/\
   aJ G' w (mem.set b (some {bx with row:= .own e xs ((i,c,.msw mem.length 0)::hs)})++ [some {gen:=0,frz:=false,row}]):=by
 obtain⟨ax,hl1,hax,hmi,hlt,hfr,hr,hpr⟩:=hM.blk hx hB;rw[hrow]at hr hl1 hax;obtain⟨v,hv,hv1,hor⟩:=MX hr hp hy;rw[hh]at hor;obtain⟨g1,g2,g3⟩:=PN hl;have hnb: ∀g,G.loc mem.length g=none:=λg=>hM.unset _ g (λx hx=>by rw[yc1 (yb1 _)]at hx;cases hx);have Y:b<mem.length:=(yd.1 hx).1;obtain⟨L,hL⟩: ∃L,Uy v row=L:=⟨_,rfl⟩
 have hg:dH G (G.put mem.length 0 L):=dH.put (.inl (hnb 0));have hev:=Ev.refl G w
 -- what the header says
 have key:VR (G.put mem.length 0 L) w (.msw mem.length 0) v/\L.e=row.e/\L.n=row.len/\(row.isInts=false->L.off=0)/\(L.blk=none->row.len=0)/\
   (∀B',L.blk=some B'->c6 w B bx.row i c B'/\G.mine B'/\B'<w.heap.size/\jA w B'/\IT G w B' L.off row/\∀β o,¬G.prot β B' o):=by
  rcases hor with ⟨u,rfl,_⟩|⟨row',hrow',hor⟩
  ·cases hl
  ·rw[hl]at hrow';obtain rfl:=yb hrow';rcases hor with ⟨rfl,h0⟩|⟨B',a',cap,rfl,ka,k1,k2,k3,k4,k5,k6,k7⟩
   ·subst hL;exact⟨.mswNil _ _ _ (Gh.put_self ..) rfl h0,rfl,rfl,λ_=>rfl,λ_=>h0,λB' h=>(nomatch h)⟩
   ·subst hL;refine⟨.msw _ _ cap _ B' (Gh.put_self ..) rfl k1 k2,rfl,rfl,ka,λh=>(nomatch h),λB2 h=>?_⟩;obtain rfl:B'=B2:=yb h;refine⟨?_,k3,k4,k5,k6,k7⟩;rw[hrow];exact⟨⟨p,y,row,hp,hy,hl⟩,hh,a',row.len,cap,hv⟩
 obtain⟨hvr,hLe,hLn,hLo,hLz,hLB⟩:=key
 -- the new memory
 have M: ∀{J:Nat} {z:bV},(mem.set b (some {bx with row:= .own e xs ((i,c,.msw mem.length 0)::hs)})++ [some {gen:=0,frz:=false,row}])[J]?=some (some z)->
   (J=b/\z={bx with row:= .own e xs ((i,c,.msw mem.length 0)::hs)})\/(J≠b/\J<mem.length/\mem[J]?=some (some z))\/(J=mem.length/\z={gen:=0,frz:=false,row}):=by
  intro J z h;rcases HP h with ⟨Z,K⟩|⟨Z,K⟩
  ·rw[yg3]at Z;by_cases e:J=b
   ·subst e;rw[yt Y]at K;exact .inl ⟨rfl,by simpa using K.symm⟩
   ·rw[yp (λx=>e x.symm)]at K;exact .inr (.inl ⟨e,Z,K⟩)
  ·rw[yg3]at Z K;have h0:J-mem.length=0:=by
    have:=(yd.1 K).1;simp at this;omega
   rw[h0]at K;exact .inr (.inr ⟨by omega,by simpa using K.symm⟩)
 have O: ∀{J g:Nat},J<mem.length->(G.put mem.length 0 L).loc J g=G.loc J g:=λh=>Gh.put_ne _ _ (λx=>by omega);have H: ∀{J:Nat} {z z':bV} {C:Nat},J<mem.length->z.gen=z'.gen->fP (G.put mem.length 0 L) J z C->fP G J z' C:=by
  rintro J z z' C Z K ⟨L',l',k'⟩
  rw[O Z,K]at l';exact⟨L',l',k'⟩
 have N: ∀{z:bV} {C:Nat},z.gen=0->fP (G.put mem.length 0 L) mem.length z C->L.blk=some C:=by
  rintro z C h0 ⟨L',l',k'⟩
  rw[h0,Gh.put_self]at l';obtain rfl:=yb l';exact k'
 have hinn: ∀{V W B' C:Nat},c6 w C (bC.own e xs ((i,c,.msw mem.length 0)::hs)) V W B'->c6 w C bx.row V W B'/\¬(V=i/\W=c):=by
  rintro V W B' C ⟨Z,K,h3⟩
  simp only[aI]at K;split at K
  ·cases K
  ·rename_i hn;rw[hrow];exact⟨⟨Z,K,h3⟩,λhh=>hn ⟨hh.1.symm,hh.2.symm⟩⟩
 have hrowmono: ∀{C a:Nat} {r:bC} {J:Nat} {z:bV},mem[J]?=some (some z)->z.row=r->fP G J z C->jR G w C a r->jR (G.put mem.length 0 L) w C a r:=by
  intro C a r J z hz hzr hC h;exact h.mono hg hev (λ_ _=>rfl) λi c B' hi=>⟨.of rfl,(hM.inn hz hC (by rw[hzr];exact hi)).2.2.2⟩
 refine⟨_,v,by rw[hL],hv,hg,hvr,⟨λJ z h=>?_,λJ g h=>?_,λJ z g h hlt'=>?_,λb1 b2 z1 z2 L1 L2 C Z K l1 l2 k1 k2=>?_,λb1 b2 z1 z2 C V W B' Z k1 hi K k2=>?_,λb1 b2 z1 z2 C D V W i2 c2 B' Z k1 hi K k2 hi2=>?_,hM.own,hM.lab,hM.away,hM.glob.mono (hg.prot true) (hev.prot true)⟩⟩
 ·rcases M h with ⟨rfl,rfl⟩|⟨hn,hl',hz⟩|⟨rfl,rfl⟩
  ·have hb:=hM.box _ _ hx;refine⟨by have:=hb.e;rw[hrow]at this;exact this,some B,ax,by rw[O Y];exact hl1,hax,hmi,hlt,hfr,?_,hpr⟩;refine⟨λh hh=>?_,hr.2.1,λV x' W y' Z K=>?_⟩
   ·rcases yk1.1 hh with rfl|hh
    ·exact(yd.1 hp).1
    ·exact hr.1 h hh
   ·obtain⟨v',hv',hv1',hp'⟩:=hr.2.2 V x' W y' Z K;refine⟨v',hv',hv1',?_⟩;by_cases hcc:i=V/\c=W
    ·obtain⟨rfl,rfl⟩:=hcc;rw[hv]at hv';obtain rfl:=yb hv';simp only[aI,and_self,if_true,HR];exact hvr
    ·simp only[aI,if_neg hcc];cases ho:aI V W hs with
     |some a=>rw[ho]at hp';exact VR.mono hg hev hp'
     |none=>
      rw[ho]at hp';refine OR.mono hg hev hp' λB' a' n cap hrow2 hvv=>⟨.of rfl,?_⟩
      obtain⟨row2,hrow2⟩:=hrow2;exact(hM.inn hx hB (i:=V) (c:=W) (by rw[hrow];exact⟨⟨x',y',row2,Z,K,hrow2⟩,ho,a',n,cap,by rw[hv',hvv]⟩)).2.2.2
  ·have hb:=hM.box J z hz;obtain⟨o,a0,hlo,ha0,hm⟩:=hb.loc;refine⟨hb.e,o,a0,by rw[O hl'];exact hlo,ha0,?_⟩;cases o with
   |none=>exact hm
   |some C=>
    obtain⟨m1,m2,m3,m4,m5⟩:=hm;exact⟨m1,m2,m3,hrowmono hz rfl ⟨_,hlo,rfl⟩ m4,m5⟩
  ·refine⟨g1,L.blk,L.off,by rw[Gh.put_self,<-hLe,<-hLn],hLo,?_⟩;cases hLb:L.blk with
   |none=>exact⟨hLz hLb,g2⟩
   |some B'=>
    obtain⟨_,m1,m2,m3,m4,m5⟩:=hLB B' hLb;exact⟨m1,m2,m3,(m4.mono hg hev (λ_ _=>rfl)).row,λ_=>m5⟩
 ·have hn:J≠mem.length:=by
   rintro rfl
   exact h {gen:=0,frz:=false,row} (by rw[yy (by simp)];simp)
  rw[Gh.put_ne _ _ (λx=>hn x.1)];refine hM.unset J g λx hx'=>?_;have hbl':=(yd.1 hx').1;by_cases e:J=b
  ·subst e;exact h _ (by rw[yq (by simpa using hbl'),yt hbl'])
  ·exact h x (by rw[yq (by simpa using hbl'),yp (λx=>e x.symm)];exact hx')
 ·rcases M h with ⟨rfl,rfl⟩|⟨hn,hl',hz⟩|⟨rfl,rfl⟩
  ·rw[O Y];exact hM.gens _ _ g hx hlt'
  ·rw[O hl'];exact hM.gens _ _ g hz hlt'
  ·rw[Gh.put_ne _ _ (λx=>by simp only at hlt';omega)];exact hnb g
 ·have hN: ∀{J:Nat} {z:bV},mem[J]?=some (some z)->fP G J z C->L.blk=some C->False:=λhz hC hLC=>hM.inA b _ bx _ B i c C hx hB (hLB C hLC).1 hz hC;rcases M Z with ⟨rfl,rfl⟩|⟨hn1,U,hz1⟩|⟨rfl,rfl⟩<;>rcases M K with ⟨rfl,rfl⟩|⟨hn2,hl2',hz2⟩|⟨rfl,rfl⟩
  ·rfl
  ·rw[O Y]at l1;rw[O hl2']at l2;exact hM.apart _ _ bx z2 L1 L2 C hx hz2 l1 l2 k1 k2
  ·exact(hN hx (H (z':=bx) Y rfl ⟨L1,l1,k1⟩) (N rfl ⟨L2,l2,k2⟩)).elim
  ·rw[O U]at l1;rw[O Y]at l2;exact hM.apart _ _ z1 bx L1 L2 C hz1 hx l1 l2 k1 k2
  ·rw[O U]at l1;rw[O hl2']at l2;exact hM.apart _ _ z1 z2 L1 L2 C hz1 hz2 l1 l2 k1 k2
  ·exact(hN hz1 (H (z':=z1) U rfl ⟨L1,l1,k1⟩) (N rfl ⟨L2,l2,k2⟩)).elim
  ·exact(hN hx (H (z':=bx) Y rfl ⟨L2,l2,k2⟩) (N rfl ⟨L1,l1,k1⟩)).elim
  ·exact(hN hz2 (H (z':=z2) hl2' rfl ⟨L2,l2,k2⟩) (N rfl ⟨L1,l1,k1⟩)).elim
  ·rfl
 ·have hb1: ∃z0 C0,mem[b1]?=some (some z0)/\fP G b1 z0 C/\c6 w C z0.row V W B'/\(b1=b->¬(V=i/\W=c))/\C0=C:=by
   rcases M Z with ⟨rfl,rfl⟩|⟨hn1,U,hz1⟩|⟨rfl,rfl⟩
   ·exact⟨bx,C,hx,H Y rfl k1,(hinn hi).1,λ_=>(hinn hi).2,rfl⟩
   ·exact⟨z1,C,hz1,H U rfl k1,hi,λh=>absurd h hn1,rfl⟩
   ·have:=hi.own;rw[g3]at this;cases this
  obtain⟨z0,_,hz0,hC0,hi0,hne0,_⟩:=hb1;rcases M K with ⟨rfl,rfl⟩|⟨hn2,hl2',hz2⟩|⟨rfl,rfl⟩
  ·exact hM.inA _ _ z0 bx C V W B' hz0 hC0 hi0 hx (H Y rfl k2)
  ·exact hM.inA _ _ z0 z2 C V W B' hz0 hC0 hi0 hz2 (H hl2' rfl k2)
  ·have hLC:=N rfl k2;obtain⟨e1,e2,e3⟩:=hM.inB _ _ z0 bx C B V W i c B' hz0 hC0 hi0 hx hB (hLB B' hLC).1;exact hne0 e1 ⟨e2,e3⟩
 ·have hb1: ∀{b1:Nat} {z1:bV} {C V W:Nat},(mem.set b (some {bx with row:= .own e xs ((i,c,.msw mem.length 0)::hs)})++ [some {gen:=0,frz:=false,row}])[b1]?=some (some z1)->fP (G.put mem.length 0 L) b1 z1 C->c6 w C z1.row V W B'->
    ∃z0,mem[b1]?=some (some z0)/\fP G b1 z0 C/\c6 w C z0.row V W B':=by
   intro b1 z1 C V W Z k1 hi;rcases M Z with ⟨rfl,rfl⟩|⟨hn1,U,hz1⟩|⟨rfl,rfl⟩
   ·exact⟨bx,hx,H Y rfl k1,(hinn hi).1⟩
   ·exact⟨z1,hz1,H U rfl k1,hi⟩
   ·have:=hi.own;rw[g3]at this;cases this
  obtain⟨y1,a1,a2,a3⟩:=hb1 Z k1 hi;obtain⟨y2,d1,d2,d3⟩:=hb1 K k2 hi2;exact hM.inB _ _ y1 y2 C D V W i2 c2 B' a1 a2 a3 d1 d2 d3
end Go.Ab
end
section
namespace Go.Ab
variable [cS]
theorem GR: ∀{a b:List bC},fU (a++b)=fU a++fU b
 | [],b=>rfl
 |r::a,b=>by simp[fU,GR (a:=a)]
theorem Gs: ∀{a:List bC},(fU a).length=a.length
 | []=>rfl
 |r::a=>by simp[fU,Gs (a:=a)]
theorem Vx{m n:aO}{b:Nat}{x:Option bV}(h:b<m.length):(m++n).set b x=m.set b x++n:=List.set_append_left _ _ h
theorem wQ{m:aO}{b:Nat}{x:Option bV}(h:m[b]?=some x):m.set b x=m:=by
 have H:=(yd.1 h).1;apply yg4;intro j;by_cases e:b=j
 ·subst e;rw[yt H,h]
 ·rw[yp e]
section
variable {P:Program}
theorem SV{l:LK}{y:PV}{a:AV}(hf:B9 l=true)(h:iO true l y=some a): ∃u,y= .lit u/\a= .lit u/\oQ u=true:=by
 cases l with
 |int k=>
  simp only[iO]at h;rw[bind_some]at h;obtain⟨x,H,h⟩:=h;obtain rfl:=yb h;unfold PV.int? at H;split at H
  ·rename_i K n;cases J:jS k K with
   |true=>rw[J]at H;obtain rfl:=yb H;rw[l6]at J;subst J;exact⟨_,rfl,rfl,rfl⟩
   |false=>rw[J]at H;cases H
  ·cases H
 |bool=>
  simp only[iO]at h;rw[bind_some]at h;obtain⟨x,H,h⟩:=h;obtain rfl:=yb h;unfold PV.bool? at H;split at H
  ·obtain rfl:=yb H;exact⟨_,rfl,rfl,rfl⟩
  ·cases H
 |str=>
  simp only[iO]at h;rw[bind_some]at h;obtain⟨x,H,h⟩:=h;obtain rfl:=yb h;unfold PV.str? at H;split at H
  ·obtain rfl:=yb H;exact⟨_,rfl,rfl,rfl⟩
  ·cases H
 |ints k=>cases hf
 |sl t e=>cases hf
structure Wv (G:Gh) (w:World) (mem:aO) (b:Nat) (bx:bV) (e:Nat) (xs:List PV) (hs':List (Nat×Nat×AV)) (rows:List bC) (G':Gh):Prop where
 gle:dH G G'
 memr:aJ G' w (mem.set b (some {bx with row:= .own e xs hs'})++fU rows)
theorem zS{G:Gh}{w:World}{mem:aO}{b:Nat}{N:bV}{B e i c:Nat}{xs:List PV}{hs:List (Nat×Nat×AV)}{tk:Bool}{l:LK}{r:AV×List (Nat×Nat×AV)×List bC}(hM:aJ G w mem)
  (U:mem[b]?=some (some N)) (J:N.row= .own e xs hs) (hB:fP G b N B) (h:qZ tk xs i c l hs mem.length=some r):
  ∃O v,cl w B (i*e+c)=some v/\VR O w r.1 v/\Wv G w mem b N e xs r.2.1 r.2.2 O/\(r.2.2= []->r.2.1=hs):=by
 unfold qZ at h;rw[bind_some]at h;obtain⟨p,hp,h⟩:=h;rw[bind_some]at h;obtain⟨y,hy,h⟩:=h;obtain⟨_,_,_,_,_,_,hr,_⟩:=hM.blk U hB;rw[J]at hr;obtain⟨v,hv,hv1,K⟩:=MX hr hp hy;have same:Wv G w mem b N e xs hs [] G:=by
  refine⟨dH.refl G,?_⟩;simp only[fU,ys1];have:(some {N with row:= .own e xs hs}:Option bV)=some N:=by rw[<-J]
  rw[this,wQ U];exact hM
 split at h
 ·rename_i hh hf;rw[aA]at h;obtain⟨hi,h⟩:=h;obtain rfl:=yb h;obtain rfl:=bZ.1 hi;rw[By hf]at K;exact⟨G,v,hv,K,same,λ_=>rfl⟩
 ·rename_i hf;rw[eH hf]at K;cases M:B9 l with
  |true=>
   rw[M]at h;simp only[yh]at h;obtain⟨a,ha,rfl⟩:=yf.1 h;obtain⟨u,rfl,rfl,hu⟩:=SV M ha;refine⟨G,v,hv,?_,same,λ_=>rfl⟩;rcases K with ⟨u',W,rfl⟩|⟨row,H,_⟩
   ·obtain rfl:u=v:=by simpa using W
    exact .lit u hu
   ·cases H
  |false=>
   rw[M]at h;simp only[yg]at h;rw[aA]at h;obtain⟨_,h⟩:=h;obtain⟨row,H,rfl⟩:=yf.1 h;obtain⟨O,v',_,V,hg,Y,Z⟩:=Py hM U J hB hp hy (eH hf) H;exact⟨O,v',V,Y,⟨hg,Z⟩,λh=>by cases h⟩
theorem CX{w:World}{b:Nat}{B e i:Nat}{xs:List PV}{tk:Bool}: ∀{ls:List LK} {c:Nat} {G:Gh} {mem:aO} {J:bV} {hs:List (Nat×Nat×AV)} {r:List AV×List (Nat×Nat×AV)×List bC},aJ G w mem->
  mem[b]?=some (some J)->J.row= .own e xs hs->fP G b J B->rX tk xs i ls c hs mem.length=some r->
  ∃G',Wv G w mem b J e xs r.2.1 r.2.2 G'/\(r.2.2= []->r.2.1=hs)/\r.1.length=ls.length/\∀(j:Nat) (a:AV),r.1[j]?=some a->∃v,cl w B (i*e+c+j)=some v/\VR G' w a v
 | [],c,G,mem,J,hs,r,hM,hx,H,hB,h=>by
  obtain rfl:=yb h;refine⟨G,⟨dH.refl G,?_⟩,λ_=>rfl,rfl,λj a ha=>by simp at ha⟩;simp only[fU,ys1];have:(some {J with row:= .own e xs hs}:Option bV)=some J:=by rw[<-H]
  rw[this,wQ hx];exact hM
 |l::ls,c,G,mem,J,hs,r,hM,hx,H,hB,h=>by
  simp only[rX]at h;rw[bind_some]at h;obtain⟨a,ha,h⟩:=h;obtain⟨q,hq,rfl⟩:=yf.1 h;obtain⟨G1,v,hv,hvr,⟨W,hM1⟩,N⟩:=zS hM hx H hB ha;have O:=(yd.1 hx).1;have hx1:(mem.set b (some {J with row:= .own e xs a.2.1})++fU a.2.2)[b]?=some (some {J with row:= .own e xs a.2.1}):=by
   rw[yq (by simpa using O),yt O]
  have hB1:fP G1 b {J with row:= .own e xs a.2.1} B:=by
   obtain⟨L,hl,hk⟩:=hB;exact⟨L,W.loc _ _ _ hl,hk⟩
  obtain⟨G2,⟨U,Y⟩,M,Z,hvs⟩:=CX (ls:=ls) (c:=c+1) hM1 hx1 rfl hB1 (by rw[yi,yg3,Gs];exact hq);refine⟨G2,⟨W.trans U,?_⟩,λhn=>?_,by simp[Z],λj a' K=>?_⟩
  ·rw[Vx (by simpa using O),List.set_set]at Y;rw[GR,<-yw1];exact Y
  ·have V:=List.append_eq_nil_iff.1 hn;rw[M V.2,N V.1]
  ·cases j with
   |zero=>simp at K;subst K;exact⟨v,by simpa using hv,hvr.mono U (Ev.refl _ _)⟩
   |succ j=>
    simp only[yo1]at K;obtain⟨u,hu,hur⟩:=hvs j a' K;exact⟨u,by rw[<-hu];congr 1;omega,hur⟩
theorem Jj{mem:aO}{b e:Nat}{H:bV}{xs:List PV}{v:AV}{hs hs':List (Nat×Nat×AV)}{rows:List bC}(K:mem[b]?=some (some H))(J:H.row= .own e xs hs)(hn:rows= []->hs'=hs):
  (Dj b e H xs v (hs',rows)).apply mem=mem.set b (some {H with row:= .own e xs hs'})++fU rows:=by
 unfold Dj;cases rows with
 |nil=>
  simp only[dY.apply,aR,fU,ys1];obtain rfl:=hn rfl;have:(some {H with row:= .own e xs hs'}:Option bV)=some H:=by rw[<-J]
  rw[this,wQ K]
 |cons r rows=>simp only[dY.apply,aR]
theorem Rg{b e:Nat}{H:bV}{xs:List PV}{v:AV}{q:List (Nat×Nat×AV)×List bC}:(Dj b e H xs v q).v=v:=by
 unfold Dj;split<;>rfl
theorem N2{G:Gh}{w:World}{mem:aO}{tk:Bool}{t:TypeId}{a:AV}{out:dY}{cv:Value}(hM:aJ G w mem)(h:Eb P tk t mem a=some out)(ha:VR G w a cv):
  ∃O K,(Instr.loadAt t cv).run P w= .ok K w/\VR O w out.v K/\dH G O/\aJ O w (out.apply mem):=by
 unfold Eb at h;split at h
 ·rename_i b g i c;rw[bind_some]at h;obtain⟨bx,hbx,h⟩:=h;obtain⟨hm,Z,hown⟩:=boxO?_some hbx;split at h
  ·rename_i e xs hs H;obtain⟨B,a0,rfl,hl,ha0,_⟩:=hM.at_ptr' hm Z ha;obtain rfl:=ha0 (by rw[H];rfl);rw[ye1];have hB:fP G b bx B:=⟨_,by rw[Z];exact hl,rfl⟩
   rw[show bx.row.e=e by rw[H];rfl];have hsa: ∀K,(loadVar t ⟨B,i*e+c,none⟩).run P w= .ok K w->(Instr.loadAt t (.pointer (some ⟨B,i*e+c,none⟩))).run P w= .ok K w:=by
    intro K hh;simp[Instr.loadAt,Instr.sureAddr,hh]
   split at h
   ·rename_i N;rw[bind_some]at h;obtain⟨l,hl',h⟩:=h;obtain⟨q,hq,rfl⟩:=yf.1 h;obtain⟨O,v,Y,V,⟨hg,W⟩,J⟩:=zS hM hm H hB hq;refine⟨O,v,hsa _ (kU N Y),by rw[Rg];exact V,hg,?_⟩;rw[Jj hm H J];exact W
   ·rename_i N;rw[bind_some]at h;obtain⟨ls,hls,h⟩:=h;rw[bind_some]at h;obtain⟨n,hn,h⟩:=h;rw[aA]at h;obtain⟨hnl,h⟩:=h;obtain⟨q,hq,rfl⟩:=yf.1 h;obtain rfl:=bZ.1 hnl;obtain⟨O,⟨hg,W⟩,J,M,hvs⟩:=CX hM hm H hB hq;have U: ∀j,j<ls.length->cl w B (i*e+c+j)=some ((cl w B (i*e+c+j)).getD undef):=by
     intro j hj;obtain⟨v,Y,_⟩:=hvs j _ (ye (by rw[M];exact hj));rw[Y];rfl
    refine⟨O,_,hsa _ (oT N hn (λj=>(cl w B (i*e+c+j)).getD undef) U),?_,hg,?_⟩
    ·rw[Rg];refine .agg _ _ (by simp[M]) λj y hy=>?_;have hj:j<ls.length:=by rw[<-M];exact(yd.1 hy).1
     obtain⟨v,Y,V⟩:=hvs j y hy;simp only[yo];simp[hj,Y,V]
    ·rw[Jj hm H J];exact W
   ·cases h
  ·cases h
 ·cases h
theorem Px{G:Gh}{w:World}{mem:aO}{t ty:TypeId}{x:AV}{out:dY}{cv:Value}(hM:aJ G w mem)(h:Ox P t mem x=some out)(U:VR G w x cv):
  out.wr= []/\out.push= []/\∃n:Nat,out.v= .lit (.int .i64 (n:Int))/\((∃e,P.underlying t=some (.slice e))/\∃a cap,cv= .slice a n cap):=by
 unfold Ox at h;split at h
 ·rename_i e b g Y;obtain⟨O,M,rfl⟩:=yf.1 h;obtain⟨hm,K,N⟩:=boxO?_some M;subst K;refine⟨rfl,rfl,O.row.len,rfl,⟨_,Y⟩,?_⟩;obtain⟨o,a0,J,W,V⟩:=(hM.box b O hm).loc;cases U with
  |msw _ _ cap L B H Z hn hf=>
   rw[J]at H;obtain rfl:=yb H;exact⟨_,_,rfl⟩
  |mswNil _ _ L H Z hn=>
   rw[J]at H;obtain rfl:=yb H;simp only at hn;rw[hn];exact⟨_,_,rfl⟩
 ·cases h
theorem Lo{G:Gh}{w:World}{mem:aO}{t:TypeId}{x:AV}{k:IntKind}{i:Int}{out:dY}{cv:Value}(hM:aJ G w mem)(h:vL P t mem x i=some out)(hx:VR G w x cv):
  out.wr= []/\out.push= []/\∃V,(Instr.indexAt t cv (.int k i)).run P w= .ok V w/\VR G w out.v V:=by
 unfold vL at h;split at h
 ·rename_i et hu;rw[bind_some]at h;obtain⟨s,hs,h⟩:=h;split at h
  ·rename_i b g o n;rw[bind_some]at h;obtain⟨Y,O,h⟩:=h;obtain⟨hm,M,W⟩:=boxO?_some O;subst M;rw[aA]at h;obtain⟨U,h⟩:=h;simp only[yc,decide_eq_true_eq]at U;obtain⟨⟨N,g2⟩,g3⟩:=U;have N:=bZ.1 N;obtain rfl:=yb h;obtain⟨oo,a0,J,ha0,hmm⟩:=(hM.box b Y hm).loc;refine⟨rfl,rfl,?_⟩;cases hx with
   |ms _ _ _ _ cap L B K Z hn hon hf=>
    have H:=K;rw[J]at H;obtain rfl:=yb H;refine⟨_,eP hu hs g2 g3 w,?_⟩;have:=VR.ptr (w:=w) b Y.gen (o+i.toNat) 0 _ B K Z;simp only at this;rw[N];simp only[yk2,<-yz1];simpa using this
   |msNil=>omega
   |msZ=>omega
  ·rename_i b g;rw[bind_some]at h;obtain⟨Y,O,h⟩:=h;obtain⟨hm,M,W⟩:=boxO?_some O;subst M;rw[aA]at h;obtain⟨U,h⟩:=h;simp only[yc,decide_eq_true_eq]at U;obtain⟨⟨N,g2⟩,g3⟩:=U;have N:=bZ.1 N;obtain rfl:=yb h;obtain⟨oo,a0,J,ha0,hmm⟩:=(hM.box b Y hm).loc;refine⟨rfl,rfl,?_⟩;cases hx with
   |msw _ _ cap L B K Z hn hf=>
    have H:=K;rw[J]at H;obtain rfl:=yb H;refine⟨_,eP hu hs g2 g3 w,?_⟩;have:=VR.ptr (w:=w) b Y.gen i.toNat 0 _ B K Z;simp only at this;rw[N];simpa using this
   |mswNil _ _ L K Z hn=>
    rw[J]at K;obtain rfl:=yb K;simp only at hn;omega
  ·cases h
 ·cases h
theorem Mf{G:Gh}{w:World}{mem:aO}{t:TypeId}{x:AV}{lo hi mx:Option Int}{vl vh vm:Option Value}{out:dY}{cv:Value}(hM:aJ G w mem)(h:vK P t mem x lo hi mx=some out)(hx:VR G w x cv)
  (hl:qS lo vl) (hh:qS hi vh) (hm:qS mx vm):VW G w P (Instr.sliceAt t cv vl vh vm) out:=by
 unfold vK at h;split at h
 ·rename_i et hu;rw[bind_some]at h;obtain⟨s,hs,h⟩:=h;split at h
  ·rename_i b g o n;rw[bind_some]at h;obtain⟨bx,V,h⟩:=h;obtain⟨N,O,hown⟩:=boxO?_some V;subst O;rw[aA]at h;obtain⟨M,h⟩:=h;have M:=bZ.1 M;subst M;obtain⟨⟨l,h'⟩,U,rfl⟩:=yf.1 h;obtain⟨oo,a0,H,ha0,hmm'⟩:=(hM.box b bx N).loc;cases hx with
   |ms _ _ _ _ cap L B hL hB hn K hf=>
    have J:=hL;rw[H]at J;obtain rfl:=yb J;simp only at hB K hf⊢;subst hB;obtain⟨m,hr,h1,Y,W,Z⟩:=cT (P:=P) (isSlice:=true) (cap:=cap) U hn hl hh hm w;have:=Dd (o:=o) (n:=n) hL hf K h1 Y W Z;exact⟨rfl,rfl,_,bG hu hs hr,by simpa[dU]using this⟩
   |msNil _ _ L hL hB=>
    rw[H]at hL;obtain rfl:=yb hL;simp only at hB;subst hB;obtain⟨m,hr,h1,Y,W,Z⟩:=cT (P:=P) (isSlice:=true) (cap:=0) U (by simp) hl hh hm w;refine⟨rfl,rfl,_,bG hu hs (a:=none) hr,?_⟩;obtain rfl:l=0:=by omega
    obtain rfl:h'=0:=by omega
    obtain rfl:m=0:=by omega
    exact .msNil b _ _ H rfl
   |msZ _ _ _ B oo2 L hL hB ho K=>
    obtain⟨m,hr,h1,Y,W,Z⟩:=cT (P:=P) (isSlice:=true) (cap:=0) U (by simp) hl hh hm w;refine⟨rfl,rfl,_,bG hu hs (a:=some ⟨B,oo2,none⟩) hr,?_⟩;obtain rfl:l=0:=by omega
    obtain rfl:h'=0:=by omega
    obtain rfl:m=0:=by omega
    simpa[dU]using VR.msZ (w:=w) b bx.gen o B oo2 L hL hB ho K
  ·rename_i b g;rw[bind_some]at h;obtain⟨bx,V,h⟩:=h;obtain⟨N,O,hown⟩:=boxO?_some V;subst O;rw[aA]at h;obtain⟨M,h⟩:=h;have M:=bZ.1 M;subst M;obtain⟨⟨l,h'⟩,U,rfl⟩:=yf.1 h;obtain⟨oo,a0,H,ha0,hmm'⟩:=(hM.box b bx N).loc;cases hx with
   |msw _ _ cap L B hL hB hn hf=>
    have J:=hL;rw[H]at J;obtain rfl:=yb J;simp only at hB hn hf⊢;subst hB;obtain⟨m,hr,h1,Y,W,Z⟩:=cT (P:=P) (isSlice:=true) (cap:=cap) U hn hl hh hm w;have:=Dd (o:=0) (n:=bx.row.len) hL (by simpa using hf) (by simp) h1 Y W Z;exact⟨rfl,rfl,_,bG hu hs hr,by simpa[dU]using this⟩
   |mswNil _ _ L hL hB hn=>
    rw[H]at hL;obtain rfl:=yb hL;simp only at hB hn;subst hB;rw[hn]at U;obtain⟨m,hr,h1,Y,W,Z⟩:=cT (P:=P) (isSlice:=true) (cap:=0) U (by simp) hl hh hm w;refine⟨rfl,rfl,_,bG hu hs (a:=none) hr,?_⟩;obtain rfl:l=0:=by omega
    obtain rfl:h'=0:=by omega
    obtain rfl:m=0:=by omega
    exact .msNil b _ _ H rfl
  ·cases h
 ·cases h
end
end Go.Ab
end
section
namespace Go.Ab
variable [cS]
theorem RG{v:Value}(h:v.oneCell'=true):v.cells.toList= [v]:=by
 cases v<;>first|rfl|cases h
theorem Ar{p z y:PV}{c:Nat}(hc:p.cells[c]?=some y)(K:z.cells= [z])(j:Nat):(lT p c z).cells[j]?=(if j=c then some z else p.cells[j]?):=by
 have H:=(yd.1 hc).1;cases p with
 |agg cs=>
  show(cs.set c z)[j]?=_
  by_cases e:j=c
  ·subst e;rw[if_pos rfl,yt (show j<cs.length from H)]
  ·rw[if_neg e,yp (λx=>e x.symm)];rfl
 |_=>
  have J:c=0:=by simp[PV.cells]at H;exact H
  subst J;show z.cells[j]?=_;rw[K];by_cases e:j=0
  ·subst e;rfl
  ·rw[if_neg e];obtain⟨k,rfl⟩: ∃k,j=k+1:=⟨j-1,by omega⟩
   simp[PV.cells]
theorem Kq{p z y:PV}{c:Nat}(hc:p.cells[c]?=some y)(H:z.cells= [z]):(lT p c z).cells.length=p.cells.length:=by
 cases p with
 |agg cs=>show(cs.set c z).length=cs.length;simp
 |_=>show z.cells.length=1;rw[H];rfl
theorem MM{α:Type}{xs:List α}{i j:Nat}{v x:α}(h:(xs.set i v)[j]?=some x):(j=i/\x=v)\/(j≠i/\xs[j]?=some x):=by
 by_cases e:j=i
 ·subst e;have H:=(yd.1 h).1;rw[yt (by simpa using H)]at h;exact .inl ⟨rfl,by simpa using h.symm⟩
 ·rw[yp (λx=>e x.symm)]at h;exact .inr ⟨e,h⟩
def pB(G:Gh)(w:World)(o:Option AV)(y:PV)(u:Value):Prop:=
 (∃a,o=some a/\VR G w a u)\/(o=none/\((∃z,y= .lit z/\u=z)\/∃row,dG y=some row/\u= .slice none 0 0/\row.len=0))
theorem pB.hr{G H:Gh}{w J:World}{o:Option AV}{y:PV}{u:Value}(N:dH G H)(O:Ev G w J)(h:pB G w o y u):HR H J o y u:=by
 rcases h with ⟨a,rfl,h⟩|⟨rfl,⟨z,rfl,rfl⟩|⟨row,U,K,M⟩⟩
 ·exact h.mono N O
 ·exact .inl ⟨_,rfl,rfl⟩
 ·exact .inr ⟨row,U,.inl ⟨K,M⟩⟩
theorem pB.out{G:Gh}{w:World}{y:PV}{u:Value}{row:bC}{a:Addr}{n cap:Nat}(h:pB G w none y u)(J:dG y=some row):u≠ .slice (some a) n cap:=by
 rcases h with ⟨a,h,_⟩|⟨_,⟨z,rfl,rfl⟩|⟨row,h1,H,h3⟩⟩
 ·cases h
 ·cases J
 ·rw[H];intro h;cases h
theorem Fy{G:Gh}{w:World}{mem:aO}{b:Nat}{bx:bV}{B e i c:Nat}{xs U:List PV}{hs hs':List (Nat×Nat×AV)}{p y:PV}{W:Value}(hM:aJ G w mem)(hx:mem[b]?=some (some bx))(J:bx.row= .own e xs hs)(hB:fP G b bx B)
  (hfrz:bx.frz=false) (hp:xs[i]?=some p) (hy:p.cells[c]?=some y) (h1:W.oneCell'=true) (hlen:U.length=xs.length) (hbnd: ∀h∈hs',h.1<xs.length) (hel: ∀x∈U,x.cells.length=e)
  (hA: ∀K x' H O,U[K]?=some x'->x'.cells[H]?=some O->¬(K=i/\H=c)->∃x0,xs[K]?=some x0/\x0.cells[H]?=some O/\aI K H hs'=aI K H hs)
  (hC: ∀x' O,U[i]?=some x'->x'.cells[c]?=some O->pB G w (aI i c hs') O W):
  Ev G w (w.setCells B (i*e+c) [W])/\aJ G (w.setCells B (i*e+c) [W]) (mem.set b (some {bx with row:= .own e U hs'})):=by
 obtain⟨a0,hl,ha0,hmi,hlt,hfr,hr,hpr⟩:=hM.blk hx hB;obtain rfl:=ha0 (by rw[J];rfl);rw[J]at hr;have hr0:=hr;obtain⟨r1,r2,r3⟩:=hr;have hce:c<e:=by rw[<-r2 p (yj hp)];exact(yd.1 hy).1
 obtain⟨v0,hv0,_⟩:=r3 i p c y hp hy;have Y: ∀j,j< [W].length->(cl w B (i*e+c+j)).isSome=true:=λj hj=>by
  have:j=0:=by simpa using hj
  subst this;rw[ya2,hv0];rfl
 have hat:cl (w.setCells B (i*e+c) [W]) B (i*e+c)=some W:=by
  have:=mB (w:=w) (B:=B) (o:=i*e+c) (vs:= [W]) Y (j:=0) (by simp);simpa using this
 have hoff: ∀K H,H<e->¬(K=i/\H=c)->cl (w.setCells B (i*e+c) [W]) B (K*e+H)=cl w B (K*e+H):=by
  intro K H hc' hne;refine kY ?_;have hd:=Fc (i:=i) hce;have hd':=Fc (i:=K) hc';have:K*e+H≠i*e+c:=λh=>hne ⟨by rw[<-hd'.1,<-hd.1,h],by rw[<-hd'.2,<-hd.2,h]⟩;simp;omega
 have:=KU (row':= .own e U hs') (o:=i*e+c) (xs:= [W]) hM hx (by rw[J];rw[J]at hl;exact hl) hfrz Y (by rw[J];rfl) (by rw[J];exact hlen) (λ_=>rfl)
  (λhev=>⟨λh Z=>by rw[hlen];exact hbnd h Z,hel,λK x' H O g1 g2=>?_⟩) (λK H X hi=>?_)
 ·exact this
 ·have V:H<e:=by rw[<-hel x' (yj g1)];exact(yd.1 g2).1
  by_cases Z:K=i/\H=c
  ·obtain⟨rfl,rfl⟩:=Z;exact⟨W,hat,h1,(hC x' O g1 g2).hr (dH.refl G) hev⟩
  ·obtain⟨x0,k1,k2,k3⟩:=hA K x' H O g1 g2 Z;obtain⟨v,hv,hv1,hp'⟩:=r3 K x0 H O k1 k2;refine⟨v,by rw[hoff K H V Z];exact hv,hv1,?_⟩;rw[k3];cases ho:aI K H hs with
   |some a=>rw[ho]at hp';exact VR.mono (dH.refl G) hev hp'
   |none=>
    rw[ho]at hp';refine OR.mono (dH.refl G) hev hp' λX a' n cap N hvv=>?_;obtain⟨row2,N⟩:=N;have hi:c6 w B bx.row K H X:=by rw[J];exact⟨⟨x0,O,row2,k1,k2,N⟩,ho,a',n,cap,by rw[hv,hvv]⟩
    have hne:X≠B:=λh=>hM.inA b b bx bx B K H X hx hB hi hx (by rw[h];exact hB);exact⟨.of (eF (w:=w) hne _ _ w),(hM.inn hx hB hi).2.2.2⟩
 ·obtain⟨⟨x',O,row,g1,g2,g3⟩,ho,a',n,cap,M⟩:=hi;have V:H<e:=by rw[<-hel x' (yj g1)];exact(yd.1 g2).1
  by_cases Z:K=i/\H=c
  ·obtain⟨rfl,rfl⟩:=Z;rw[hat]at M;have hn:=hC x' O g1 g2;rw[ho]at hn;exact absurd (yb M) (hn.out g3)
  ·obtain⟨x0,k1,k2,k3⟩:=hA K x' H O g1 g2 Z;rw[hoff K H V Z]at M;rw[J];exact⟨⟨x0,O,row,k1,k2,g3⟩,by rw[<-k3];exact ho,a',n,cap,M⟩
theorem Jn{c i:Nat}{v:AV}: ∀{hs:List (Nat×Nat×AV)},mV c hs=some (i,v)->∀M J,¬(M=i/\J=c)->aI M J (Eh c hs)=aI M J hs
 | [],h=>by cases h
 |(j,J,u)::r,h=>by
  intro U O H;simp only[mV]at h;simp only[Eh];cases K:Nat.beq c J with
  |true=>
   rw[K]at h;simp only[yh,Option.some.injEq,Prod.mk.injEq]at h;obtain⟨rfl,rfl⟩:=h;obtain rfl:=bZ.1 K;simp only[yh,aI];rw[if_neg (λN=>H ⟨N.1.symm,N.2.symm⟩)]
  |false=>
   rw[K]at h;simp only[yg]at h;simp only[yg,aI];split
   ·rfl
   ·exact Jn h U O H
theorem Kt{c:Nat}: ∀{hs:List (Nat×Nat×AV)},∀h∈Eh c hs,h∈hs
 | [],h,H=>by cases H
 |(j,K,u)::r,h,H=>by
  simp only[Eh]at H;cases J:Nat.beq c K with
  |true=>rw[J]at H;exact yk _ H
  |false=>
   rw[J]at H;simp only[yg]at H;rcases yk1.1 H with rfl|H
   ·exact yn ..
   ·exact yk _ (Kt h H)
theorem HQ{i c:Nat}{hs hs':List (Nat×Nat×AV)}(h:GJ i c hs=some hs'):(∀J H,¬(J=i/\H=c)->aI J H hs'=aI J H hs)/\aI i c hs'=none/\∀x∈hs',x∈hs:=by
 unfold GJ at h;split at h
 ·rename_i hf;obtain rfl:=yb h;exact⟨λ_ _ _=>rfl,eH hf,λ_ h=>h⟩
 ·rename_i q hf;rw[aA]at h;obtain⟨K,h⟩:=h;simp only[yc]at K;obtain rfl:=bZ.1 K.1;obtain rfl:=yb h;obtain⟨i0,v⟩:=q;exact⟨Jn hf,eH (Option.isNone_iff_eq_none.1 K.2),Kt⟩
section
variable {P:Program}
theorem MK{G:Gh}{w:World}{mem:aO}{t:TypeId}{a x:AV}{out:dY}{ca cx:Value}(hM:aJ G w mem)(h:oR P t mem a x=some out)(ha:VR G w a ca)(hx:VR G w x cx):
  out.v= .lit undef/\∃w',(Instr.storeAt t ca cx).run P w= .ok () w'/\Ev G w w'/\aJ G w' (out.apply mem):=by
 unfold oR at h;split at h
 ·rename_i b g i c;rw[bind_some]at h;obtain⟨bx,hbx,h⟩:=h;obtain⟨hm,hge,hown⟩:=boxO?_some hbx;split at h
  ·rename_i e xs hs J;rw[bind_some]at h;obtain⟨n,hn,h⟩:=h;rw[aA]at h;obtain⟨hg,h⟩:=h;simp only[yc,yx]at hg;obtain⟨⟨g1,g2⟩,g3⟩:=hg;obtain rfl:=bZ.1 g1;rw[bind_some]at h;obtain⟨p,hp,h⟩:=h;rw[bind_some]at h;obtain⟨y,hy,h⟩:=h;obtain⟨B,a0,rfl,hl,ha0,hmine,hB0,hfz,hr,hpr⟩:=hM.at_ptr' hm hge ha;obtain rfl:=ha0 (by rw[J];rfl);rw[ye1];have hB:fP G b bx B:=⟨_,by rw[hge];exact hl,rfl⟩
   rw[show bx.row.e=e by rw[J];rfl];rw[J]at hr;have h1:=OO hx g3;have hcc:=RG h1;have hel:=hr.2.1;have Z:=hr.1;have W:(Instr.storeAt t (.pointer (some ⟨B,i*e+c,none⟩)) cx).run P w= .ok () (w.setCells B (i*e+c) [cx]):=by
    obtain⟨v0,hv0,_⟩:=hr.2.2 i p c y hp hy;have hs1: ∀j,j<1->(cl w B (i*e+c+j)).isSome=true:=λj hj=>by
     have:j=0:=by omega
     subst this;rw[ya2,hv0];rfl
    have:=Ee (P:=P) (cv:=cx) (B:=B) (o:=i*e+c) (w:=w) hn (by rw[<-yi2,hcc];rfl) hs1 (λj hj=>hfz.cell (hs1 j hj)) (by rw[hcc];simpa using h1);rw[hcc]at this;simp[Instr.storeAt,Instr.sureAddr,this]
   have hset: ∀z:PV,z.cells= [z]->(∀x∈xs.set i (lT p c z),x.cells.length=e)/\(xs.set i (lT p c z)).length=xs.length/\
     (∀M x' O K,(xs.set i (lT p c z))[M]?=some x'->x'.cells[O]?=some K->¬(M=i/\O=c)->∃x0,xs[M]?=some x0/\x0.cells[O]?=some K)/\
     (∀x' K,(xs.set i (lT p c z))[i]?=some x'->x'.cells[c]?=some K->K=z):=by
    intro z hz;refine⟨λx hx=>?_,by simp,λM x' O K k1 U H=>?_,λx' K k1 U=>?_⟩
    ·rcases ym2 hx with h|h
     ·exact hel x h
     ·rw[h,Kq hy hz];exact hel p (yj hp)
    ·rcases MM k1 with ⟨rfl,rfl⟩|⟨hn,k1⟩
     ·rw[Ar hy hz,if_neg (λh=>H ⟨rfl,h⟩)]at U;exact⟨p,hp,U⟩
     ·exact⟨x',k1,U⟩
    ·rcases MM k1 with ⟨_,rfl⟩|⟨hn,_⟩
     ·rw[Ar hy hz,if_pos rfl]at U;exact(yb U).symm
     ·exact absurd rfl hn
   split at h
   ·rename_i u v;rw[aA]at h;obtain⟨hg,h⟩:=h;simp only[yc]at hg;obtain rfl:=yb h;obtain rfl:=hx.lit_inv;obtain⟨s1,s2,s3,s4⟩:=hset (.lit cx) rfl;have ho:=eH (i:=i) (Option.isNone_iff_eq_none.1 hg.2);obtain⟨Y,V⟩:=Fy hM hm J hB g2 hp hy h1 s2 Z s1 (λM x' O K k1 U H=>by obtain⟨x0,q1,q2⟩:=s3 M x' O K k1 U H;exact⟨x0,q1,q2,rfl⟩) (λx' K k1 U=> .inr ⟨ho,.inl ⟨cx,s4 x' K k1 U,rfl⟩⟩);exact⟨rfl,_,W,Y,by rw[eB];exact V⟩
   ·cases h
   ·rename_i hny;rw[bind_some]at h;obtain⟨K,N,h⟩:=h;obtain⟨hs',hfr,rfl⟩:=yf.1 h;obtain rfl:=hx.lit_inv;obtain⟨f1,f2,f3⟩:=HQ hfr;have hz:K.cells= [K]/\∃row',dG K=some row'/\row'.len=0:=by
     cases y with
     |ints k ys=>obtain rfl:=yb N;exact⟨rfl,_,rfl,rfl⟩
     |sl e' ys=>
      simp only[Du]at N;rw[aA]at N;obtain⟨he,N⟩:=N;obtain rfl:=yb N;exact⟨rfl,.pvs false e' [],by simp only[dG,guardB,he,yh],rfl⟩
     |lit u=>cases N
     |agg cs=>cases N
    obtain⟨hz,row',hl',h0'⟩:=hz;obtain⟨s1,s2,s3,s4⟩:=hset K hz;obtain⟨Y,V⟩:=Fy hM hm J hB g2 hp hy h1 s2 (λh hh=>Z h (f3 h hh)) s1 (λM x' O K k1 U H=>by obtain⟨x0,q1,q2⟩:=s3 M x' O K k1 U H;exact⟨x0,q1,q2,f1 M O H⟩)
     (λx' y2 k1 U=> .inr ⟨f2,.inr ⟨row',by rw[s4 x' y2 k1 U];exact hl',rfl,h0'⟩⟩)
    exact⟨rfl,_,W,Y,by rw[eB];exact V⟩
   ·cases h
   ·obtain⟨hs',hfr,rfl⟩:=yf.1 h;obtain⟨f1,f2,f3⟩:=HQ hfr;have hhead: ∀M O,¬(M=i/\O=c)->aI M O ((i,c,x)::hs')=aI M O hs:=by
     intro M O H;simp only[aI];rw[if_neg (λhh=>H ⟨hh.1.symm,hh.2.symm⟩)];exact f1 M O H
    obtain⟨Y,V⟩:=Fy (hs':=(i,c,x)::hs') hM hm J hB g2 hp hy h1 rfl (λh hh=>by
      rcases yk1.1 hh with rfl|hh
      ·exact(yd.1 hp).1
      ·exact Z h (f3 h hh)) hel (λM x' O K k1 U H=>⟨x',k1,U,hhead M O H⟩)
     (λx' y2 k1 U=> .inl ⟨x,by simp[aI],hx⟩)
    exact⟨rfl,_,W,Y,by rw[eB];exact V⟩
  ·cases h
 ·cases h
theorem jH{i c:Nat}: ∀{a b:List (Nat×Nat×AV)},aI i c (a++b)=(match aI i c a with|some v=>some v|none=>aI i c b)
 | [],b=>rfl
 |(i',c',v)::a,b=>by
  simp only[yo3,aI];split
  ·rfl
  ·exact jH
theorem iB{i c:Nat}: ∀{hs:List (Nat×Nat×AV)},(∀h∈hs,¬(h.1=i/\h.2.1=c))->aI i c hs=none
 | [],_=>rfl
 |(i',c',v)::r,h=>by
  simp only[aI];rw[if_neg (h _ (yn ..))];exact iB λx H=>h x (yk _ H)
theorem Ov{G:Gh}{w:World}{l:LK}{v:AV}{j c:Nat}{q:PV×List (Nat×Nat×AV)}{u:Value}(h:CK l v j c=some q)(J:VR G w v u):
  pB G w (aI j c q.2) q.1 u/\q.1.cells= [q.1]/\∀x∈q.2,x.1=j/\x.2.1=c:=by
 unfold CK at h;have hole: ∀{p:PV},q=(p,[(j,c,v)])->p.cells= [p]->pB G w (aI j c q.2) q.1 u/\q.1.cells= [q.1]/\∀x∈q.2,x.1=j/\x.2.1=c:=by
  rintro p rfl M
  exact⟨.inl ⟨v,by simp[aI],J⟩,M,λx H=>by simp at H;subst H;exact⟨rfl,rfl⟩⟩
 split at h
 ·rw[aA]at h;obtain⟨_,h⟩:=h;obtain rfl:=yb h;obtain rfl:=J.lit_inv;exact⟨.inr ⟨rfl,.inl ⟨_,rfl,rfl⟩⟩,rfl,λx H=>by cases H⟩
 ·obtain rfl:=yb h;obtain rfl:=J.lit_inv;exact⟨.inr ⟨rfl,.inl ⟨_,rfl,rfl⟩⟩,rfl,λx H=>by cases H⟩
 ·obtain rfl:=yb h;obtain rfl:=J.lit_inv;exact⟨.inr ⟨rfl,.inl ⟨_,rfl,rfl⟩⟩,rfl,λx H=>by cases H⟩
 ·obtain rfl:=yb h;obtain rfl:=J.lit_inv;exact⟨.inr ⟨rfl,.inr ⟨_,rfl,rfl,rfl⟩⟩,rfl,λx H=>by cases H⟩
 ·rename_i t e;rw[aA]at h;obtain⟨K,h⟩:=h;obtain rfl:=yb h;obtain rfl:=J.lit_inv;exact⟨.inr ⟨rfl,.inr ⟨.pvs false e [],by simp only[dG,guardB,K,yh],rfl,rfl⟩⟩,rfl,λx H=>by cases H⟩
 ·exact hole (yb h).symm rfl
 ·exact hole (yb h).symm rfl
 ·rw[aA]at h;obtain⟨_,h⟩:=h;exact hole (yb h).symm rfl
 ·rw[aA]at h;obtain⟨_,h⟩:=h;exact hole (yb h).symm rfl
 ·cases h
theorem FO{G:Gh}{w:World}{j:Nat}: ∀{ls:List LK} {vs:List AV} {c:Nat} {q:List PV×List (Nat×Nat×AV)} {us:List Value},Rv ls vs j c=some q->kI G w vs us->
  q.1.length=vs.length/\(∀x∈q.2,x.1=j/\c≤x.2.1)/\∀(k:Nat) (y:PV),q.1[k]?=some y->∃u,us[k]?=some u/\pB G w (aI j (c+k) q.2) y u/\y.cells= [y]
 | [],[],c,q,us,h,K=>by
  obtain rfl:=yb h;exact⟨rfl,λx H=>(nomatch H),λk y J=>by simp at J⟩
 | [],v::vs,c,q,us,h,_=>by simp[Rv]at h
 |l::ls,[],c,q,us,h,_=>by simp[Rv]at h
 |l::ls,v::vs,c,q,[],h,K=>by simp[kI]at K
 |l::ls,v::vs,c,q,u::us,h,K=>by
  simp only[Rv]at h;rw[bind_some]at h;obtain⟨a,ha,h⟩:=h;obtain⟨r,hr,rfl⟩:=yf.1 h;obtain⟨a1,a2,V⟩:=Ov ha (K.2 0 v rfl);obtain⟨r1,O,Z⟩:=FO (us:=us) hr ⟨by simpa using K.1,λj y J=>by simpa using K.2 (j+1) y (by simpa using J)⟩;refine⟨by simp[r1],λx H=>?_,λk y J=>?_⟩
  ·rcases yr1.1 H with H|H
   ·obtain⟨N,W⟩:=V x H;exact⟨N,by omega⟩
   ·obtain⟨N,W⟩:=O x H;exact⟨N,by omega⟩
  ·cases k with
   |zero=>
    simp at J;subst J;refine⟨u,rfl,?_,a2⟩;simp only[ya2];rw[jH];have:aI j c r.2=none:=iB λx H Y=>by have:=(O x H).2;omega
    rw[this];cases U:aI j c a.2 with
    |some v'=>rw[U]at a1;exact a1
    |none=>rw[U]at a1;exact a1
   |succ k=>
    simp only[yo1]at J;obtain⟨u',M,hn,hc⟩:=Z k y J;refine⟨u',by simpa using M,?_,hc⟩;have:aI j (c+(k+1)) a.2=none:=iB λx H Y=>by have:=(V x H).2;omega
    simp only;rw[jH,this,show c+(k+1)=c+1+k by omega];exact hn
theorem Gq{t:TypeId}{cs:List PV}{p:PV}(h:zU P t cs=some p)(hc: ∀(k:Nat) (y:PV),cs[k]?=some y->y.cells= [y]):p.cells=cs:=by
 unfold zU at h;split at h
 ·obtain rfl:=yb h;rfl
 ·split at h
  ·rename_i c _;obtain rfl:=yb h;exact hc 0 _ rfl
  ·cases h
 ·cases h
structure LL (G:Gh) (w:World) (e j n:Nat) (us:List Value) (q:List PV×List (Nat×Nat×AV)):Prop where
 len:q.1.length=n
 ix: ∀x∈q.2,j≤x.1/\x.1<j+n
 size: ∀x∈q.1,x.cells.length=e
 cell: ∀(k c:Nat) (p y:PV),q.1[k]?=some p->p.cells[c]?=some y->∃u,us[k*e+c]?=some u/\pB G w (aI (j+k) c q.2) y u
theorem qO{G:Gh}{w:World}{t:TypeId}{ls:List LK}{e:Nat}(U:ls.length=e): ∀{J:List (List AV)} {j:Nat} {q:List PV×List (Nat×Nat×AV)} {us:List Value},GZ P t ls J j=some q->
  (∀(k:Nat) (cs:List AV),J[k]?=some cs->kI G w cs ((us.drop (k*e)).take e))->LL G w e j J.length us q
 | [],j,q,us,h,Y=>by
  obtain rfl:=yb h;exact⟨rfl,λx H=>(nomatch H),λx H=>(nomatch H),λk c p y Z=>by simp at Z⟩
 |cs::J,j,q,us,h,Y=>by
  simp only[GZ]at h;rw[bind_some]at h;obtain⟨a,ha,h⟩:=h;rw[bind_some]at h;obtain⟨p,Z,h⟩:=h;obtain⟨r,hr,rfl⟩:=yf.1 h;have h0:=Y 0 cs rfl;simp only[ys3,yd2]at h0;obtain⟨a1,a2,a3⟩:=FO ha h0;have N:=Gq Z (λk y M=>by obtain⟨_,_,_,h⟩:=a3 k y M;exact h);have V:cs.length=e:=by
   have: ∀{ls:List LK} {vs:List AV} {c:Nat} {q:List PV×List (Nat×Nat×AV)},Rv ls vs j c=some q->ls.length=vs.length:=by
    intro ls
    induction ls with
    |nil=>intro vs c q h;cases vs with|nil=>rfl|cons v vs=>simp[Rv]at h
    |cons l ls ih=>
     intro vs c q h;cases vs with
     |nil=>simp[Rv]at h
     |cons v vs=>
      simp only[Rv]at h;rw[bind_some]at h;obtain⟨_,_,h⟩:=h;obtain⟨r,hr,_⟩:=yf.1 h;simp[ih hr]
   rw[<-this ha,U]
  obtain⟨r1,r2,r3,r4⟩:=qO U (us:=us.drop e) hr (λk cs hk=>by
   have:=Y (k+1) cs (by simpa using hk)
   rw[List.drop_drop,show e+k*e=(k+1)*e by rw[yz1];omega];exact this)
  refine⟨by simp[r1],λx H=>?_,λx H=>?_,λk c p' y K M=>?_⟩
  ·rcases yr1.1 H with H|H
   ·have:=(a2 x H).1;simp;omega
   ·have:=r2 x H;simp;omega
  ·rcases yk1.1 H with rfl|H
   ·rw[N,a1,V]
   ·exact r3 x H
  ·cases k with
   |zero=>
    simp at K;subst K;rw[N]at M;obtain⟨u,O,hn,_⟩:=a3 c y M;have W:c<e:=by have:=(yd.1 M).1;omega
    rw[yy1,if_pos W]at O;refine⟨u,by simpa using O,?_⟩;simp only[ya2];rw[jH];have:aI j c r.2=none:=iB λx H hh=>by have:=(r2 x H).1;omega
    rw[this];rw[ye1]at hn;cases ho:aI j c a.2 with
    |some v'=>rw[ho]at hn;exact hn
    |none=>rw[ho]at hn;exact hn
   |succ k=>
    simp only[yo1]at K;obtain⟨u,O,hn⟩:=r4 k c p' y K M;rw[yg1]at O;refine⟨u,by rw[<-O];congr 1;rw[yz1];omega,?_⟩;have:aI (j+(k+1)) c a.2=none:=iB λx H hh=>by have:=(a2 x H).1;omega
    simp only;rw[jH,this,show j+(k+1)=j+1+k by omega];exact hn
def TZ(G:Gh)(w:World)(mem:aO)(b e:Nat)(Bold:Option Nat)(xs0:List PV)(hs:List (Nat×Nat×AV))(vs0:List Value):Prop:=
 ∀(i:Nat) (x:PV) (c:Nat) (y:PV),xs0[i]?=some x->x.cells[c]?=some y->∃v,vs0[i*e+c]?=some v/\v.oneCell'=true/\
  ((∃ a, aI i c hs = some a ∧ VR G w a v) ∨ (aI i c hs = none ∧ OR G w y v ∧ ∀ X a' n cap, (∃ row, dG y = some row) → v = .slice (some ⟨X, a', none⟩) n cap →
   (∃ (x : bV) (B : Nat), mem[b]? = some (some x) ∧ fP G b x B ∧ c6 w B x.row i c X) ∧ Bold ≠ some X))
theorem F6{n:Nat}: ∀{hs:List (Nat×Nat×AV)},nV n hs=true->∀h∈hs,h.1<n
 | [],_,h,J=>by cases J
 |(i,c,v)::r,h,x,H=>by
  simp only[nV,yc]at h;rcases yk1.1 H with rfl|H
  ·have:=h.1;simp[Nat.blt]at this;exact this
  ·exact F6 h.2 x H
theorem pW{G:Gh}{w:World}{mem:aO}{b g' e n:Nat}{Bold:Option Nat}{xs0:List PV}{hs:List (Nat×Nat×AV)}{vs0 us:List Value}{q:List PV×List (Nat×Nat×AV)}(hM:aJ G w mem)(hno:G.loc b g'=none)
  (W:nV xs0.length hs=true) (hsz: ∀x∈xs0,x.cells.length=e) (hv0:vs0.length=xs0.length*e) (Y:TZ G w mem b e Bold xs0 hs vs0) (H:LL G w e xs0.length n us q) (h1: ∀u∈us,u.oneCell'=true):
  zC G w mem b g' (.own e (xs0++q.1) (hs++q.2)) Bold (vs0++us):=by
 have W:=F6 W;have hoL: ∀i c,i<xs0.length->aI i c (hs++q.2)=aI i c hs:=by
  intro i c V;rw[jH];have:aI i c q.2=none:=iB λx K hh=>by have:=(H.ix x K).1;omega
  rw[this];cases aI i c hs<;>rfl
 have hoR: ∀k c,aI (xs0.length+k) c (hs++q.2)=aI (xs0.length+k) c q.2:=by
  intro k c;rw[jH];have:aI (xs0.length+k) c hs=none:=iB λx K hh=>by have:=W x K;omega
  rw[this]
 have M: ∀{i:Nat} {x:PV},(xs0++q.1)[i]?=some x->(i<xs0.length/\xs0[i]?=some x)\/(∃k,i=xs0.length+k/\q.1[k]?=some x):=by
  intro i x h;by_cases V:i<xs0.length
  ·rw[yq V]at h;exact .inl ⟨V,h⟩
  ·rw[yy (by omega)]at h;exact .inr ⟨i-xs0.length,by omega,h⟩
 have hsz2: ∀x∈xs0++q.1,x.cells.length=e:=λx K=>(yr1.1 K).elim (hsz x) (H.size x);have hL: ∀{i c:Nat} {x y:PV} {v:Value},xs0[i]?=some x->x.cells[c]?=some y->vs0[i*e+c]?=some v->(vs0++us)[i*e+c]?=some v:=λ_ _ hv=>by rw[yq (yd.1 hv).1];exact hv
 have hR: ∀{k c:Nat} {u:Value},us[k*e+c]?=some u->(vs0++us)[(xs0.length+k)*e+c]?=some u:=by
  intro k c u hu;rw[yy (by rw[hv0,yz1];omega),hv0,show(xs0.length+k)*e+c-xs0.length*e=k*e+c by rw[yz1];omega];exact hu
 refine⟨λw1 B' a' ha' hev hsame O=>?_,λw1 B' a' i c X ha' O V=>?_⟩<;>obtain rfl:=ha' rfl<;>simp only[ye1]at O
 ·generalize hL':(⟨some B',(bC.own e (xs0++q.1) (hs++q.2)).e,(bC.own e (xs0++q.1) (hs++q.2)).len,0⟩:Gi)=L;have hg:dH G (G.put b g' L):=dH.put (.inl hno);refine⟨λh hh=>?_,hsz2,λi x c y K hy=>?_⟩
  ·rw[yi,H.len];rcases yr1.1 hh with hh|hh
   ·have:=W h hh;omega
   ·exact(H.ix h hh).2
  ·rcases M K with ⟨V,K⟩|⟨k,rfl,hx'⟩
   ·obtain⟨v,hv,hv1,U⟩:=Y i x c y K hy;refine⟨v,O _ _ (hL K hy hv),hv1,?_⟩;rw[hoL i c V];rcases U with ⟨a,Z,ha⟩|⟨Z,U,hin⟩
    ·rw[Z];exact ha.mono hg hev
    ·rw[Z];refine OR.mono hg hev U λX a' m cap N hvv=>?_;obtain⟨⟨z,C,hz,hC,hiz⟩,hne⟩:=hin X a' m cap N hvv;obtain⟨_,k2,_,k4⟩:=hM.inn hz hC hiz;exact⟨.of (hsame X k2 hne),k4⟩
   ·obtain⟨u,hu,hn⟩:=H.cell k c x y hx' hy;refine⟨u,O _ _ (hR hu),h1 u (yj hu),?_⟩;rw[hoR];exact hn.hr hg hev
 ·obtain⟨⟨x,y,row,K,hy,N⟩,Z,a',m,cap,J⟩:=V;rcases M K with ⟨V,K⟩|⟨k,rfl,hx'⟩
  ·obtain⟨v,hv,hv1,U⟩:=Y i x c y K hy;rw[O _ _ (hL K hy hv)]at J;rw[hoL i c V]at Z;rcases U with ⟨a,ho',ha⟩|⟨_,U,hin⟩
   ·rw[Z]at ho';cases ho'
   ·exact(hin X a' m cap ⟨row,N⟩ (yb J)).1
  ·obtain⟨u,hu,hn⟩:=H.cell k c x y hx' hy;rw[O _ _ (hR hu)]at J;rw[hoR]at Z;rw[Z]at hn;exact absurd (yb J) (hn.out N)
theorem Rb{G:Gh}{w:World}{mem:aO}{b:Nat}{M:bV}{B e n:Nat}{xs:List PV}{hs:List (Nat×Nat×AV)}(hM:aJ G w mem)(N:mem[b]?=some (some M))(J:M.row= .own e xs hs)(hB:fP G b M B)(he:1≤e)(hn:n≤xs.length):
  ∃vs0:List Value,vs0.length=n*e/\TZ G w mem b e (some B) (xs.take n) hs vs0/\(∀j u,vs0[j]?=some u->cl w B j=some u)/\∀x∈xs.take n,x.cells.length=e:=by
 obtain⟨a0,hl,ha0,hmi,hlt,hfr,hr,hpr⟩:=hM.blk N hB;obtain rfl:=ha0 (by rw[J];rfl);rw[J]at hr;obtain⟨r1,r2,r3⟩:=hr;have hce: ∀{i c:Nat} {x y:PV},xs[i]?=some x->x.cells[c]?=some y->c<e:=λK V=>by rw[<-r2 _ (yj K)];exact(yd.1 V).1
 refine⟨(List.range (n*e)).map (λj=>(cl w B j).getD undef),by simp,λi x c y K V=>?_,λj u Y=>?_,λx N=>r2 x (yk3 N)⟩
 ·have O:i<n:=by have:=(yd.1 K).1;simp at this;omega
  rw[yy1,if_pos O]at K;obtain⟨v,W,hv1,Z⟩:=r3 i x c y K V;refine⟨v,by simp[Fr (hce K V) O,W],hv1,?_⟩;cases ho:aI i c hs with
  |some a=>rw[ho]at Z;exact .inl ⟨a,rfl,Z⟩
  |none=>
   rw[ho]at Z;refine .inr ⟨rfl,Z,λX a' m cap H hvv=>?_⟩;obtain⟨U,H⟩:=H;have O:c6 w B M.row i c X:=by rw[J];exact⟨⟨x,y,U,K,V,H⟩,ho,a',m,cap,by rw[W,hvv]⟩
   exact⟨⟨M,B,N,hB,O⟩,λh=>by
    obtain rfl:=yb h
    exact hM.inA b b M M _ i c _ N hB O N hB⟩
 ·have hj:j<n*e:=by have:=(yd.1 Y).1;simpa using this
  simp[hj]at Y;have O:j/e<n:=by rw[Nat.div_lt_iff_lt_mul (by omega)];exact hj
  have hc:j%e<(xs[j/e]'(by omega)).cells.length:=by rw[r2 _ (yf2 _)];exact Nat.mod_lt _ (by omega)
  obtain⟨v,W,_⟩:=r3 (j/e) _ (j%e) _ (ye (by omega)) (ye hc);rw[show j/e*e+j%e=j by rw[yb3];exact Nat.div_add_mod j e]at W;rw[W]at Y⊢
  simp at Y;rw[Y]
end
end Go.Ab
end
section
namespace Go.Ab
variable [cS]
theorem kI.chunks{G:Gh}{w:World}{cs:List AV}{us:List Value}(h:kI G w cs us){e n k:Nat}{c:List AV}(M:(chunks e n cs)[k]?=some c):kI G w c ((us.drop (k*e)).take e):=by
 have K:k<n:=by have:=(yd.1 M).1;rwa[iL]at this
 rw[BY K]at M;obtain rfl:=yb M;refine⟨by simp[h.1],λj y J=>?_⟩;have H:j<e:=by have:=(yd.1 J).1;simp at this;omega
 rw[yy1,if_pos H,yg1]at J;have hj:=(yd.1 J).1;have:=h.2 _ y J;rw[ym,yy1,if_pos H,yg1,<-ym];exact this
theorem bW.avs{G:Gh}{w:World}{e:Nat}{cs:List AV}{us:List Value}(h:bW G w (.avs e cs) us):kI G w cs us/\us.length=aY e cs.length*e/\∀u∈us,u.oneCell'=true:=by
 obtain⟨H,M,J,N⟩:=h;refine⟨⟨by rw[H];show cs.length=aY e cs.length*e;rw[yb3];exact J,λj y K=>?_⟩,H,M⟩;obtain⟨u,O,U⟩:=N j y K;rw[ym,O];exact U
theorem NP{G:Gh}{w:World}{mem:aO}{b:Nat}{row:bC}{vs:List Value}{t:TypeId}(hM:aJ G w mem)(U:mem[b]?=some none)(Y:1≤row.e)(K:zC G w mem b 0 row none vs):
  ∃O,dH G O/\Ev G w (w.alloc (.cells vs.toArray t))/\aJ O (w.alloc (.cells vs.toArray t)) (mem.set b (some {gen:=0,frz:=false,row}))/\O.loc b 0=some ⟨some w.heap.size,row.e,row.len,0⟩/\
   ∀j u,vs[j]?=some u->cl (w.alloc (.cells vs.toArray t)) w.heap.size j=some u:=by
 have N:G.loc b 0=none:=hM.unset b 0 (λx J=>by rw[U]at J;cases J);have W:dH G (G.put b 0 ⟨some w.heap.size,row.e,row.len,0⟩):=dH.put (.inl N);have M:=Ev.alloc G w (.cells vs.toArray t) hM.away;have H: ∀j u,vs[j]?=some u->cl (w.alloc (.cells vs.toArray t)) w.heap.size j=some u:=λj u Z=>by rw[mO];simpa using Z
 refine⟨_,W,M,hM.make U Y (K.row _ _ 0 (λ_=>rfl) M (λX hX _=>gA hX) (by simp only[ye1];exact H)) (λi c B' V=>?_),Gh.put_self ..,H⟩;obtain⟨x,_,J,_⟩:=K.inn _ _ 0 i c B' (λ_=>rfl) (by simp only[ye1];exact H) V;rw[U]at J;cases J
section
variable {P:Program} {G:Gh} {w:World} {mem:aO} {o:Oper} {a:Act} {out:dY}
theorem Kd{own:Bool}{t tx ty:TypeId}{rs:Nat}{x y:AV}{cx cy:Value}(hM:aJ G w mem)(hrs:mem[rs]?=some none)
  (h:pF P own t tx mem rs x y=some out) (Z:VR G w x cx) (hy:VR G w y cy):
  ∃G' w1 cv,(Builtin.append_ #[t,tx] ty #[cx,cy]).run P w= .ok cv w1/\VR G' w1 out.v cv/\dH G G'/\Ev G w w1/\aJ G' w1 (out.apply mem):=by
 unfold pF at h;rw[bind_some]at h;obtain⟨et,het,h⟩:=h;rw[bind_some]at h;obtain⟨s,hs,h⟩:=h;rw[bind_some]at h;obtain⟨bytes,hby,h⟩:=h;rw[bind_some]at h;obtain⟨z,hz,h⟩:=h;rw[bind_some]at h;obtain⟨ls,hls,h⟩:=h;rw[bind_some]at h;obtain⟨yv,hyv,h⟩:=h;obtain⟨yv1,yrd⟩:=yv;simp only at h;split at h
 ·rename_i e cs;rw[aA]at h;obtain⟨W,h⟩:=h;simp only[yc]at W;obtain⟨⟨⟨⟨⟨⟨g1,g2⟩,g3⟩,g4⟩,g5⟩,g6⟩,g7⟩:=W;obtain rfl:=bZ.1 g1;have g3:=dA.1 g3;have g4:=dA.1 g4;have g5:=bZ.1 g5;have g6:=bZ.1 g6;obtain⟨i,zv0,hE⟩:=KA het hs hby hz g3 g4 g5;obtain⟨news,V,hnews⟩:=BW hM hyv hy hs g2;obtain⟨hL,hnl,M⟩:=hnews.avs;have hch: ∀(k:Nat) (c:List AV),(chunks s (aY s cs.length) cs)[k]?=some c->kI G w c ((news.drop (k*s)).take s):=λk c hk=>hL.chunks hk;split at h
  ·obtain rfl:=Z.lit_inv;rw[aA]at h;obtain⟨_,h⟩:=h;rw[bind_some]at h;obtain⟨q,hq,h⟩:=h;rw[aA]at h;obtain⟨hml,h⟩:=h;simp only[yc]at hml;obtain rfl:=yb h;have H:=qO g6 hq hch;rw[iL]at H;have U: ∀g,0≤g->G.loc rs g=none:=λg _=>hM.unset rs g (λx Z=>by rw[hrs]at Z;cases Z);have K:=pW (Bold:=none) (xs0:= []) (hs:= []) (vs0:= []) hM (U 0 (yb1 _)) rfl (λx Z=>by cases Z) (by simp) (λi x c y h1=>by simp at h1) H M;simp only[yw3]at K;rw[eB];exact oK hM (yd.1 hrs).1 U hE V (by have:=dA.1 hml.2;rw[H.len]at this;exact this) rfl H.len K (λ_=>rfl)
  ·rename_i b g;rw[bind_some]at h;obtain⟨bx,hbx,h⟩:=h;obtain⟨hm,hge,hown⟩:=boxO?_some hbx;subst hge;split at h
   ·rename_i e' xs hs' J;rw[bind_some]at h;obtain⟨q,hq,h⟩:=h;rw[aA]at h;obtain⟨W,h⟩:=h;simp only[yc,yx]at W;obtain⟨⟨⟨c1,c2⟩,c3⟩,Y⟩:=W;obtain rfl:=bZ.1 c2;have Y:=dA.1 Y;obtain rfl:=yb h;have H:=qO g6 hq hch;rw[iL]at H;rw[eB];have U:=λg W=>hM.gens b bx g hm W;have O:(xs++q.1).length=xs.length+aY s cs.length:=by rw[yi,H.len]
    cases Z with
    |msw _ _ cap L B hl hb hn hf=>
     have hB:fP G b bx B:=⟨L,hl,hb⟩
     obtain⟨a0,N,ha0,_⟩:=hM.blk hm hB;have hLL:=hl;rw[N]at hLL;obtain rfl:=yb hLL;obtain rfl:=ha0 (by rw[J];rfl);obtain⟨vs0,v1,v2,v3,v4⟩:=Rb hM hm J hB g4 (yb1 _);rw[yu2]at v2 v4;have K:=pW (g':=bx.gen+1) hM (U _ (yd3 _)) c3 v4 v1 v2 H M;rw[J]at hn hf⊢
     exact BV (row':= .own s (xs++q.1) (hs'++q.2)) hM hm N (λ_=>rfl) c1 hE v1 (by simp only[ye1];exact v3) hn hf V rfl O K Y
    |mswNil _ _ L hl hb hn=>
     obtain⟨oo,a0,N,ha0,hmm⟩:=(hM.box b bx hm).loc;rw[hl]at N;obtain rfl:=yb N;rw[J]at hn;have hx0:xs= []:=yu hn;subst hx0;have K:=pW (g':=bx.gen+1) (Bold:=none) (xs0:= []) (vs0:= []) hM (U _ (yd3 _)) c3 (λx Z=>by cases Z) (by simp) (λi x c y h1=>by simp at h1) H M;simp only[yw3]at K O Y;exact oK (row':= .own s (q.1) (hs'++q.2)) hM (yd.1 hm).1 (λg W=>U g W) hE V (by rw[H.len]at Y;exact Y) rfl H.len K (λ_=>rfl)
   ·cases h
  ·rename_i b g n;rw[bind_some]at h;obtain⟨bx,hbx,h⟩:=h;obtain⟨hm,hge,hown⟩:=boxO?_some hbx;subst hge;split at h
   ·rename_i e' xs hs' J;rw[bind_some]at h;obtain⟨q,hq,h⟩:=h;rw[aA]at h;obtain⟨W,h⟩:=h;simp only[yc,yx]at W;obtain⟨⟨⟨⟨c1,c2⟩,c0⟩,c3⟩,Y⟩:=W;obtain rfl:=bZ.1 c2;have Y:=dA.1 Y;have c0:=dA.1 c0;obtain rfl:=yb h;have H:=qO g6 hq hch;rw[iL]at H;rw[eB];have U:=λg W=>hM.gens b bx g hm W;have htl:(xs.take n).length=n:=by simp;omega
    have O:(xs.take n++q.1).length=n+aY s cs.length:=by rw[yi,H.len,htl]
    cases Z with
    |ms _ _ _ _ cap L B hl hb hn hon hf=>
     have hB:fP G b bx B:=⟨L,hl,hb⟩
     obtain⟨a0,N,ha0,_⟩:=hM.blk hm hB;have hLL:=hl;rw[N]at hLL;obtain rfl:=yb hLL;obtain rfl:=ha0 (by rw[J];rfl);obtain⟨vs0,v1,v2,v3,v4⟩:=Rb hM hm J hB g4 c0;have K:=pW (g':=bx.gen+1) hM (U _ (yd3 _)) (by rw[htl];exact c3) v4 (by rw[htl];exact v1) v2 (by rw[htl];exact H) M;simp only[ye1]at hf;rw[J]at hf;simp only[ys3];exact BV (row':= .own s (xs.take n++q.1) (hs'++q.2)) hM hm N (λ_=>rfl) c1 hE v1 (by simp only[ye1];exact v3) hn (by rw[ye1];exact hf) V rfl O K Y
    |msNil _ _ L hl hb=>
     obtain⟨oo,a0,N,ha0,hmm⟩:=(hM.box b bx hm).loc;rw[hl]at N;obtain rfl:=yb N;simp only[yi4,yw3]at O Y hq⊢
     have K:=pW (g':=bx.gen+1) (Bold:=none) (xs0:= []) (vs0:= []) hM (U _ (yd3 _)) c3 (λx Z=>by cases Z) (by simp) (λi x c y h1=>by simp at h1) H M;simp only[yw3]at K;exact oK (row':= .own s (q.1) (hs'++q.2)) hM (yd.1 hm).1 (λg W=>U g W) hE V (by rw[H.len]at Y;exact Y) rfl H.len K (λ_=>rfl)
    |msZ _ _ _ B oo L hl hb ho hon=>omega
   ·cases h
  ·cases h
 ·cases h
theorem Gl{t:TypeId}{rs:Nat}{x:Operand}(hM:aJ G w mem)(hm:mem[rs]?=some none)(M:x= .const (.slice none 0 0))(Y:execOp a.eval o=pure (Next.value (a.eval x)))(h:KH P t rs=some out):rR P G w mem o a out:=by
 unfold KH at h;rw[bind_some]at h;obtain⟨et,O,h⟩:=h;rw[bind_some]at h;obtain⟨e,U,h⟩:=h;rw[aA]at h;obtain⟨H,h⟩:=h;obtain rfl:=yb h;have H:=dA.1 H;subst M;obtain⟨V,N,W,J⟩:=Ff (b:=rs) (g':=0) (row':= .own e [] []) hM (yd.1 hm).1 (λg _=>hM.unset rs g (λy K=>by rw[hm]at K;cases K)) H rfl rfl;refine nI.opW ⟨V,w,.value (a.eval (.const (.slice none 0 0))),_,by rw[Y];simp,.inl rfl,?_,N,Ev.refl G w,by simpa[dY.apply,aR]using J⟩;exact .mswNil rs 0 _ W rfl rfl
theorem OG{ρ:Operand->Option AV}{rs:Nat}{t:TypeId}{l c:Operand}(hM:aJ G w mem)(hrs:mem[rs]?=some none)(hρ:TX G w ρ a)(h:Kh P ρ mem rs t l c=some out):
  ∃Z w' cv,(Instr.makeSlice t (a.eval l) (a.eval c)).run P w= .ok cv w'/\VR Z w' out.v cv/\dH G Z/\Ev G w w'/\aJ Z w' (out.apply mem):=by
 unfold Kh at h;rw[bind_some]at h;obtain⟨et,het,h⟩:=h;rw[bind_some]at h;obtain⟨z,hz,h⟩:=h;rw[bind_some]at h;obtain⟨vl,hl,h⟩:=h;rw[bind_some]at h;obtain⟨vc,hc,h⟩:=h;rw[bind_some]at h;obtain⟨ls,hls,h⟩:=h;split at h
 ·rename_i k1 n k2 n';rw[aA]at h;obtain⟨hg,h⟩:=h;simp only[yc,beq_iff_eq,decide_eq_true_eq]at hg;obtain⟨⟨hnn,hn0⟩,J⟩:=hg;subst hnn;have J:=dA.1 J;rw[bind_some]at h;obtain⟨q,hq,h⟩:=h;rw[bind_some]at h;obtain⟨p,hp,h⟩:=h;rw[bind_some]at h;obtain⟨e,he,h⟩:=h;rw[bind_some]at h;obtain⟨bytes,U,h⟩:=h;rw[aA]at h;obtain⟨hg,h⟩:=h;simp only[yc]at hg;obtain⟨⟨⟨⟨g1,g2⟩,g3⟩,g5⟩,g4⟩:=hg;have g1:=dA.1 g1;have g2:=dA.1 g2;have g3:=bZ.1 g3;have g4:q.2= []:=by cases hh:q.2 with|nil=>rfl|cons _ _=>rw[hh]at g4;cases g4
  obtain⟨i,H,hi,hzv,hov⟩:=mW hz;have W:VR G w z H:=oG hov;have el:=(hρ _ _ hl).lit_inv;have ec:=(hρ _ _ hc).lit_inv;obtain⟨m,rfl⟩: ∃m:Nat,n=(m:Int):=⟨n.toNat,by omega⟩
  rw[yz]at J h;obtain rfl:=yb h;have his:i.size=e:=by unfold k8 at he;rw[hi]at he;simpa using he
  have hib:i.bytes≤4096:=by unfold l8 at U;rw[hi]at U;simp at U;omega
  have V:H.cells.size=e:=by rw[<-g3];simpa using W.cells.1.symm
  obtain⟨a1,a2,a3⟩:=FO hq W.cells;have hpc:=Gq hp (λk y hy=>by obtain⟨_,_,_,h⟩:=a3 k y hy;exact h);have hno:G.loc rs 0=none:=hM.unset rs 0 (λx N=>by rw[hrs]at N;cases N);have hfl: ∀k c,k<m->c<e->(flat (List.replicate m H))[k*e+c]?=H.cells.toList[c]?:=λk c Y hc=>sO (λu M=>by rw[(ya3.1 M).2];exact V) (by rw[yt1,if_pos Y]) hc;have hone: ∀u∈flat (List.replicate m H),u.oneCell'=true:=by
   intro u M;obtain⟨z',hz',M⟩:=N7 M;rw[(ya3.1 hz').2]at M;obtain⟨j,hj,rfl⟩:=yb2 M;exact W.cells.ones g5 _ (yf2 hj)
  have hne:LL G w e ([]:List PV).length m (flat (List.replicate m H)) (List.replicate m p,[]):=by
   refine⟨by simp,λx N=>(nomatch N),λx N=>?_,λk c p' y O hy=>?_⟩
   ·rw[(ya3.1 N).2,hpc,a1,g3]
   ·have Y:k<m:=by have:=(yd.1 O).1;simpa using this
    simp only[yt1,if_pos Y,Option.some.injEq]at O;subst O;rw[hpc]at hy;obtain⟨u,M,hn,_⟩:=a3 c y hy;have hce:c<e:=by rw[<-g3,<-a1];exact(yd.1 hy).1
    rw[g4]at hn;exact⟨u,by rw[hfl k c Y hce];exact M,hn⟩
  have hok:=pW (Bold:=none) (xs0:= []) (hs:= []) (vs0:= []) hM hno rfl (λx N=>by cases N) (by simp) (λi x c y h1=>by simp at h1) hne hone;simp only[yw3]at hok;obtain⟨Z,hg',hev,hM',hl',hcl⟩:=NP (t:=et) (row:= .own e (List.replicate m p) []) hM hrs g1 hok;have hfit:=Ax J hib
  have K:=run_make (P:=P) w t et i H (qK het) hi hzv k1 k2 m m (by omega) (Int.le_refl _) (by
    have h:((m*i.bytes:Nat):Int)≤281474976710656:=by omega
    rw[Int.natCast_mul,Int.mul_comm]at h;exact h) (by unfold bU at J;omega)
  simp only[yz]at K;have hc':madeCells H.cells (m*i.size)=(flat (List.replicate m H)).toArray:=by
   have:=lJ H.cells (by omega) m;rw[<-yx2 (xs:=madeCells H.cells (m*i.size)),gN,<-this,his];simp only[madeCells,V]
  rw[hc']at K;rw[el,ec];refine⟨Z,_,_,K,?_,hg',hev,by rw[eB];exact hM'⟩;have Y:VR Z (w.alloc (.cells (flat (List.replicate m H)).toArray et)) (.msw rs 0) (.slice (some ⟨w.heap.size,0,none⟩) (bC.own e (List.replicate m p) []).len m):=by
   refine .msw rs 0 m _ w.heap.size hl' rfl (by simp[bC.len]) (λj hj=>?_);simp only[bC.e]at hj;have hj2:j<(flat (List.replicate m H)).length:=by rw[jP (e:=e) (λu M=>by rw[(ya3.1 M).2];exact V)];simpa using hj
   rw[hcl j _ (ye hj2)];rfl
  simpa[bC.len]using Y
 ·cases h
theorem L4{ρ:Operand->Option AV}{rs:Nat}{t:TypeId}{len:Nat}{J:Array (Nat×Operand)}(hM:aJ G w mem)(hrs:mem[rs]?=some none)(hρ:TX G w ρ a)(h:FB P ρ mem rs t len J=some out):
  ∃G' w' cv,(Instr.buildSlice t len (J.map λp=>(p.1,a.eval p.2))).run P w= .ok cv w'/\VR G' w' out.v cv/\dH G G'/\Ev G w w'/\aJ G' w' (out.apply mem):=by
 unfold FB at h;rw[bind_some]at h;obtain⟨et,het,h⟩:=h;rw[bind_some]at h;obtain⟨z,hz,h⟩:=h;rw[bind_some]at h;obtain⟨s,hs,h⟩:=h;rw[bind_some]at h;obtain⟨ps,hps,h⟩:=h;rw[bind_some]at h;obtain⟨ls,hls,h⟩:=h;rw[aA]at h;obtain⟨hg,h⟩:=h;rw[bind_some]at h;obtain⟨q,hq,h⟩:=h;rw[aA]at h;obtain⟨U,h⟩:=h;obtain rfl:=yb h;simp only[yc]at hg;obtain⟨⟨⟨⟨⟨⟨g1,g2⟩,g3⟩,g4⟩,g5⟩,g6⟩,g7⟩:=hg;have g2:=dA.1 g2;have g3:=dA.1 g3;have g4:=dA.1 g4;have g6:=bZ.1 g6;have g7:=dA.1 g7;have hp:=BT hρ hps;generalize (J.map λp=>(p.1,a.eval p.2))=qs at hp⊢
 have hu:=qK het;obtain⟨i,H,hi,hzv,hov⟩:=mW hz;have M:i.size=s:=by unfold k8 at hs;rw[hi]at hs;simpa using hs
 have hzr:VR G w z H:=oG hov;have hsz:=zW g5;have Z:H.cells.size=s:=by rw[<-hsz z (yn ..)];simpa using hzr.cells.1.symm
 have hL0:kI G w (List.replicate len z) (List.replicate len H):=by
  refine⟨by simp,λj y hy=>?_⟩;obtain⟨W,rfl⟩:j<len/\z=y:=by
   have h1:=(yd.1 hy)
   obtain⟨h1,h2⟩:=h1;simp at h1 h2;exact⟨h1,h2⟩
  rw[ym,yt1,if_pos W];exact hzr
 have hL:=B0 hL0 hp;have hqs: ∀q∈qs.toList,q.2.cells.size=s/\q.1<(List.replicate len H).length:=by
  intro q hq;obtain⟨j,W,rfl⟩:=yb2 hq;have K:j<ps.length:=by rw[hp.1];exact W
  obtain⟨v,hv,O⟩:=hp.2 j _ (ye K);rw[ye W]at hv;have hqe:=yb hv;rw[hqe];refine⟨?_,by simp only[yi3];exact y7 g1 _ (yf2 K)⟩;rw[<-hsz (ps[j].2) (yk _ (yl3.2 ⟨_,yf2 K,rfl⟩))];simpa using O.cells.1.symm
 have hz1: ∀u∈List.replicate len H,u.cells.size=s:=λu hu=>by rw[(ya3.1 hu).2];exact Z
 have V:=r8 hz1 (λq h=>(hqs q h).1);have hlen:(qN (List.replicate len z) ps).length=len:=by rw[rW];simp
 have hone: ∀u∈flat (gY (List.replicate len H) qs.toList),u.oneCell'=true:=(v8 hL).ones U;have Y:LL G w s ([]:List PV).length len (flat (gY (List.replicate len H) qs.toList)) q:=by
  have:=qO g6 hq (us:=flat (gY (List.replicate len H) qs.toList)) (λk cs hk=>by
   rw[yh1]at hk;obtain⟨v,hv,rfl⟩:=yf.1 hk;obtain⟨u,hu,O⟩:=hL.get hv;have:((flat (gY (List.replicate len H) qs.toList)).drop (k*s)).take s=u.cells.toList:=by
    have hcs:=V u (yj hu);apply yg4;intro c;rw[yy1];by_cases hc:c<s
    ·rw[if_pos hc,yg1,sO V hu hc]
    ·rw[if_neg hc,yc1 (by simp[hcs];omega)]
   rw[this];exact O.cells)
  rw[ym1,hlen]at this;exact this
 have hno:G.loc rs 0=none:=hM.unset rs 0 (λx hx=>by rw[hrs]at hx;cases hx);have hok:=pW (Bold:=none) (xs0:= []) (hs:= []) (vs0:= []) hM hno rfl (λx hx=>by cases hx) (by simp) (λi x c y h1=>by simp at h1) Y hone;simp only[yw3]at hok;obtain⟨G',hg',hev,hM',hl',hcl⟩:=NP (t:=et) (row:= .own s q.1 q.2) hM hrs g3 hok;have hlt:len*s≤16777216:=yv2 (Nat.mul_le_mul g2 g4) (by decide);have hpos:0<len*s:=Nat.mul_pos (by omega) (by omega)
 have hc0:((Array.range (len*i.size)).map (H.cells[· %H.cells.size]!)).toList=flat (List.replicate len H):=by
  rw[M,gN];have:=lJ H.cells (by omega) len;rw[Z]at this;rw[Z];exact this
 obtain⟨c',hf,hc'⟩:=Fg hc0 hz1 hqs;have N:c'=(flat (gY (List.replicate len H) qs.toList)).toArray:=by rw[<-hc']
 refine⟨G',_,_,run_buildSlice w t et len qs c' i H hu hi hzv (by rw[M];omega) (by rw[M];omega) (by rw[M]at hf⊢;exact hf),?_,hg',by rw[N];exact hev,by rw[eB,N];exact hM'⟩;rw[N];have hk:VR G' (w.alloc (.cells (flat (gY (List.replicate len H) qs.toList)).toArray et)) (.msw rs 0) (.slice (some ⟨w.heap.size,0,none⟩) (bC.own s q.1 q.2).len len):=by
  refine .msw rs 0 len _ w.heap.size hl' rfl (by simp only[bC.len];rw[Y.len];exact yb1 _) (λj W=>?_);simp only[bC.e]at W;have K:j<(flat (gY (List.replicate len H) qs.toList)).length:=by rw[jP (e:=s) V,AC];simpa using W
  rw[hcl j _ (ye K)];rfl
 simp only[bC.len]at hk;rw[Y.len]at hk;exact hk
theorem JU{own:Bool}{b:Builtin}{ts:Array TypeId}{ty:TypeId}{consts:Array Bool}{rs:Nat}{args:List AV}{vs:Array Value}(hM:aJ G w mem)(U:b= .append->mem[rs]?=some none)
  (h:oI P own b ts.toList mem rs args=some out) (M:rZ G w args vs):
  ∃s:Sem Value,builtin b ts ty consts vs=(do pure (Next.value (<-s)))/\∃O N cv,s.run P w= .ok cv N/\VR O N out.v cv/\dH G O/\Ev G w N/\aJ O N (out.apply mem):=by
 unfold oI at h;split at h
 ·rename_i t x J;have H:ts= #[t]:=by rw[<-J,yx2]
  obtain⟨x',rfl⟩:=Wo M.1.symm;have K:=M.2 0 x rfl;simp at K;subst H;obtain⟨Z,Y,n,hn,⟨e,hu⟩,ad,cap,rfl⟩:=Px (ty:=ty) hM h K;exact⟨_,rfl,G,w,.int .i64 (n:Int),by simp[Builtin.len_,Builtin.lenOf,run_underlying hu,goInt],by rw[hn];exact .lit _ rfl,dH.refl G,Ev.refl G w,by simpa only[dY.apply,Z,Y,aR,ys1]using hM⟩
 ·rename_i t W x y J;have H:ts= #[t,W]:=by rw[<-J,yx2]
  obtain⟨x',y',rfl⟩:=Wp M.1.symm;have K:=M.2 0 x rfl;have V:=M.2 1 y rfl;simp at K V;subst H;exact⟨_,rfl,Kd hM (U rfl) h K V⟩
 ·cases h
theorem SC{own tk:Bool}{ρ:Operand->Option AV}{rs:Nat}(hM:aJ G w mem)(O:eR o.op=true->mem[rs]?=some none)(M:TX G w ρ a)(J:b7 own ρ mem o.op=true)
  (h:J1 P own tk o ρ mem rs=some out):rR P G w mem o a out:=by
 unfold J1 at h;split at h
 ·rename_i x H;rw[H]at J;simp only[b7,yc]at J;exact Gl hM (O (by rw[H];exact J.2)) (Fe J.2) (by simp only[execOp,H]) h
 ·rename_i x H;rw[H]at J;simp only[b7,yc]at J;exact Gl hM (O (by rw[H];exact J.2)) (Fe J.2) (by simp only[execOp,H]) h
 ·rename_i t len Y H;exact rR.value (by simp only[execOp,H]<;>rfl) (L4 hM (O (by rw[H];rfl)) M h)
 ·rename_i t l c H;exact rR.value (by simp only[execOp,H]<;>rfl) (OG hM (O (by rw[H];rfl)) M h)
 ·rename_i t x H;rw[bind_some]at h;obtain⟨v,hv,h⟩:=h;obtain⟨G',cv,K,N,hg,V⟩:=N2 hM h (M _ _ hv);exact rR.value (by simp only[execOp,H]<;>rfl) ⟨G',w,cv,K,N,hg,Ev.refl G w,V⟩
 ·rename_i t x y H;rw[bind_some]at h;obtain⟨vx,W,h⟩:=h;rw[bind_some]at h;obtain⟨vy,hy,h⟩:=h;obtain⟨hov,w',K,hev,V⟩:=MK hM h (M _ _ W) (M _ _ hy);refine nI.opW ⟨G,w',.skip,undef,?_,.inr ⟨rfl,rfl⟩,by rw[hov];exact .lit _ rfl,dH.refl G,hev,V⟩;simp only[execOp,H,Sem.run_bind,K,Result.andThen_ok,Sem.run_pure]
 ·rename_i t x lo hi mx H;rw[bind_some]at h;obtain⟨vx,W,h⟩:=h;rw[bind_some]at h;obtain⟨vl,hl,h⟩:=h;rw[bind_some]at h;obtain⟨vh,hh,h⟩:=h;rw[bind_some]at h;obtain⟨vm,hm,h⟩:=h;obtain⟨h1,Z,cv,K,N⟩:=Mf hM h (M _ _ W) (pU M hl) (pU M hh) (pU M hm);exact rR.still hM (by simp only[execOp,H]<;>rfl) h1 Z K N
 ·rename_i t x ix H;rw[bind_some]at h;obtain⟨vx,W,h⟩:=h;rw[bind_some]at h;obtain⟨vi,hi,h⟩:=h;split at h
  ·rename_i k i;have ei:=(M _ _ hi).lit_inv;obtain⟨h1,Z,cv,K,N⟩:=Lo (k:=k) hM h (M _ _ W);exact rR.still hM (by simp only[execOp,H]<;>rfl) h1 Z (by rw[ei];exact K) N
  ·cases h
 ·rename_i c H;rw[bind_some]at h;obtain⟨args,U,h⟩:=h;have hav:=D6 M U;split at h
  ·rename_i b hc;obtain⟨s,hs,hh⟩:=JU (ty:=o.type) (consts:=c.args.map fun| .const _=>true|_=>false) hM (λhb=>O (by rw[H];subst hb;unfold eR;obtain⟨cc,_,_⟩:=c;simp only at hc;subst hc;rfl)) h hav;refine rR.value (s:=s) ?_ hh;rw[<-hs];simp only[execOp,H,resolve,hc,invoke];rfl
  ·cases h
 ·cases h
theorem RM{C:cC}{own tk boxed raw vars:Bool}{ρ:Operand->Option AV}{rs:Nat}(hM:aJ G w mem)(J:eR o.op=true->mem[rs]?=some none)(O:TX G w ρ a)
  (H: ∀{raw keep:Bool} {g:FuncId} {ts:List TypeId} {U args N:List AV} {out:dY} {V M cv:Array Value},BE P C raw keep g ts U args N mem=some out->rZ G w U V->rZ G w args M->rZ G w N cv->Pr P G w mem g (V++M++cv) out)
  (h:Kf P C own tk boxed raw vars o ρ mem rs=some out):rR P G w mem o a out:=by
 unfold Kf at h;cases K:b7 own ρ mem o.op with
 |true=>rw[K]at h;exact SC hM J O K h
 |false=>rw[K]at h;exact Rw hM J O H h
end
end Go.Ab
end
section
namespace Go.Ab
variable [cS]
theorem gB(f:mS): ∀cs:List AV,AV.renAll f cs=cs.map (·.ren f)
 | []=>by simp[AV.renAll]
 |c::cs=>by simp[AV.renAll,gB f cs]
theorem lM: ∀{cs:List AV} {j:Nat} {y:AV},cs[j]?=some y->y.lent=true->AV.lentAny cs=true
 | [],j,y,h,_=>by simp at h
 |c::cs,0,y,h,H=>by simp at h;subst h;simp[AV.lentAny,H]
 |c::cs,j+1,y,h,H=>by simp[AV.lentAny,lM (cs:=cs) (j:=j) (by simpa using h) H]
def F2(G G2:Gh)(f:mS):Prop:= ∀b g q L,f b g=some q->G.loc b g=some L->G2.loc q.1 q.2=some L
theorem wD{f:mS}{cs:List AV}{j:Nat}{y:AV}(h:(AV.renAll f cs)[j]?=some y): ∃x,cs[j]?=some x/\y=x.ren f:=by
 rw[gB,yh1]at h;obtain⟨x,H,rfl⟩:=yf.1 h;exact⟨x,H,rfl⟩
theorem VR.ren{G W:Gh}{w:World}{f:mS}{l:Bool}(hr:F2 G W f)(hp: ∀β B o,(β=true->l=true)->G.prot β B o->W.prot β B o){a:AV}{v:Value}(h:VR G w a v):
  (a.lent=true->l=true)->VR W w (a.ren f) v:=by
 induction h with
 |lit v h=>intro _;simp only[AV.ren];exact .lit v h
 |imm β p v h hs=>intro H;simp only[AV.ren];exact .imm β p v (h.mono (λB o J=>hp β B o (λe=>H (by simp[AV.lent,e])) J) (λ_ _ _=>rfl)) hs
 |unkB b=>intro _;simp only[AV.ren];exact .unkB b
 |dead v h1 Z=>intro _;simp only[AV.ren];exact .dead v h1 Z
 |ptr b g i c L B H J=>
  intro _;simp only[AV.ren];split
  ·rename_i q N;exact .ptr q.1 q.2 i c L B (hr b g q L N H) J
  ·exact .dead _ rfl rfl
 |ms b g o n cap L B H J hn U hf=>
  intro _;simp only[AV.ren];split
  ·rename_i q N;exact .ms q.1 q.2 o n cap L B (hr b g q L N H) J hn U hf
  ·exact .dead _ rfl rfl
 |msNil b g L H J=>
  intro _;simp only[AV.ren];split
  ·rename_i q N;exact .msNil q.1 q.2 L (hr b g q L N H) J
  ·exact .dead _ rfl rfl
 |msZ b g o B oo L H J ho U=>
  intro _;simp only[AV.ren];split
  ·rename_i q N;exact .msZ q.1 q.2 o B oo L (hr b g q L N H) J ho U
  ·exact .dead _ rfl rfl
 |msw b g cap L B H J hn hf=>
  intro _;simp only[AV.ren];split
  ·rename_i q N;exact .msw q.1 q.2 cap L B (hr b g q L N H) J hn hf
  ·exact .dead _ rfl rfl
 |mswNil b g L H J hn=>
  intro _;simp only[AV.ren];split
  ·rename_i q N;exact .mswNil q.1 q.2 L (hr b g q L N H) J hn
  ·exact .dead _ rfl rfl
 |el β p c B o cv h hr'=>
  intro H;simp only[AV.ren];have V: ∀B o,G.prot β B o->W.prot β B o:=λB o J=>hp β B o (λe=>H (by simp[AV.lent,e])) J;exact .el β p c B o cv (λj y K=>⟨(h j y K).1,V _ _ (h j y K).2⟩) (λj y K=>(hr' j y K).mono V (λ_ _ _=>rfl))
 |fn f' fi ca fv cv h1 Z hf hc ihf Y=>
  intro H;simp only[AV.ren];refine .fn f' _ _ fv cv (by rw[gB];simpa using h1) (by rw[gB];simpa using Z) (λj y K=>?_) (λj y K=>?_)
  ·obtain⟨x,M,rfl⟩:=wD K;exact ihf j x M (λe=>H (by simp[AV.lent,lM M e]))
  ·obtain⟨x,M,rfl⟩:=wD K;exact Y j x M (λe=>H (by simp[AV.lent,lM M e]))
 |agg cs cvs O h ih=>
  intro H;simp only[AV.ren];refine .agg _ cvs (by rw[gB];simpa using O) (λj y K=>?_);obtain⟨x,M,rfl⟩:=wD K;exact ih j x M (λe=>H (by simp[AV.lent,lM M e]))
 |tup cs cvs O h ih=>
  intro H;simp only[AV.ren];refine .tup _ cvs (by rw[gB];simpa using O) (λj y K=>?_);obtain⟨x,M,rfl⟩:=wD K;exact ih j x M (λe=>H (by simp[AV.lent,lM M e]))
def vG:bC->Bool
 | .cells _ cs=>AV.lentAny cs
 | .pvs β _ _=>β
 | .ints _ _=>false
 | .own _ _ hs=>oH hs
theorem q5: ∀{mem:aO} {b:Nat} {x:bV},mem[b]?=some (some x)->vG x.row=true->kC mem=true
 | [],b,x,h,_=>by simp at h
 |some y::m,0,x,h,H=>by
  simp at h;subst h;obtain⟨g,fz,row⟩:=y;cases row<;>simp_all[kC,vG]
 |none::m,0,x,h,H=>by simp at h
 |some y::m,b+1,x,h,H=>by simp[kC,q5 (mem:=m) (b:=b) (by simpa using h) H]
 |none::m,b+1,x,h,H=>by simp only[kC];exact q5 (mem:=m) (b:=b) (by simpa using h) H
theorem pP(f:mS)(r:bC):(r.ren f).e=r.e:=by cases r<;>rfl
theorem lW(f:mS)(r:bC):(r.ren f).len=r.len:=by cases r<;>simp[bC.ren,bC.len,gB]
theorem dX(f:mS)(r:bC):(r.ren f).isCells=r.isCells:=by cases r<;>rfl
theorem wC(f:mS)(r:bC):(r.ren f).isInts=r.isInts:=by cases r<;>rfl
theorem rE(f:mS){i c:Nat}: ∀{hs:List (Nat×Nat×AV)},aI i c (rP f hs)=(aI i c hs).map (·.ren f)
 | []=>rfl
 |(i',c',v)::r=>by
  simp only[rP,aI];split
  ·rfl
  ·exact rE f
theorem OW{y:PV}{β:Bool}{e:Nat}{xs:List PV}(h:dG y=some (.pvs β e xs)):β=false:=by
 cases y with
 |ints k H=>cases h
 |sl e H=>simp only[dG]at h;rw[aA]at h;obtain⟨_,h⟩:=h;cases h;rfl
 |lit u=>cases h
 |agg cs=>cases h
theorem F4(f:mS): ∀{hs:List (Nat×Nat×AV)} {x:Nat×Nat×AV},x∈rP f hs->∃y∈hs,x.1=y.1
 | [],x,h=>by cases h
 |(i',c',v)::r,x,h=>by
  simp only[rP]at h;rcases yk1.1 h with rfl|h
  ·exact⟨_,yn ..,rfl⟩
  ·obtain⟨y,H,J⟩:=F4 f h;exact⟨y,yk _ H,J⟩
theorem Dr: ∀{hs:List (Nat×Nat×AV)} {i c:Nat} {a:AV},aI i c hs=some a->a.lent=true->oH hs=true
 | [],i,c,a,h,_=>by cases h
 |(i',c',v)::r,i,c,a,h,H=>by
  simp only[aI]at h;simp only[oH,yh2];split at h
  ·obtain rfl:=yb h;exact .inl H
  ·exact .inr (Dr h H)
theorem c6.ren{w:World}{B:Nat}{f:mS}{r:bC}{i c B':Nat}:c6 w B (r.ren f) i c B'↔c6 w B r i c B':=by
 cases r with
 |own e xs hs=>
  constructor
  ·rintro⟨K,H,J⟩;rw[rE,Option.map_eq_none_iff]at H;exact⟨K,H,J⟩
  ·rintro⟨K,H,J⟩;exact⟨K,by rw[rE,H];rfl,J⟩
 |_=>exact Iff.rfl
theorem jR.ren{G V:Gh}{w:World}{f:mS}{l:Bool}(hr:F2 G V f)(Z: ∀β B o,(β=true->l=true)->G.prot β B o->V.prot β B o){B a:Nat}{r:bC}(h:jR G w B a r)(hl:vG r=true->l=true)
  (hin: ∀i c B',c6 w B r i c B'->V.mine B'/\∀β o,¬V.prot β B' o):jR V w B a (r.ren f):=by
 cases r with
 |ints k xs=>exact h
 |pvs β e xs=>exact⟨h.1,λi x c y H K=>by obtain⟨v,U,O,N⟩:=h.2 i x c y H K;exact⟨v,U,O,N.mono (λB o hb=>Z β B o (λe=>hl (by simp[vG,e])) hb) (λ_ _ _=>rfl)⟩⟩
 |cells e cs=>
  refine⟨by simpa[gB]using h.1,λj y K=>?_⟩;obtain⟨x,H,rfl⟩:=wD K;obtain⟨v,U,O,N⟩:=h.2 j x H;exact⟨v,U,O,N.ren hr Z (λe=>hl (by simp[vG,lM H e]))⟩
 |own e xs hs=>
  obtain⟨U,O,N⟩:=h;refine⟨λx H=>by obtain⟨y,K,he⟩:=F4 f H;rw[he];exact U y K,O,λi x c y H K=>?_⟩;obtain⟨v,hv,hv1,M⟩:=N i x c y H K;refine⟨v,hv,hv1,?_⟩;rw[rE];cases Y:aI i c hs with
  |some a=>rw[Y]at M;exact VR.ren hr Z M (λe=>hl (by simp only[vG];exact Dr Y e))
  |none=>
   rw[Y]at M;rcases M with M|⟨row,J,M⟩
   ·exact .inl M
   ·refine .inr ⟨row,J,?_⟩;rcases M with M|⟨B',a',cap,rfl,ka,k1,k2,k3,k4,k5,W,k7⟩
    ·exact .inl M
    ·obtain⟨m1,m2⟩:=hin i c B' ⟨⟨x,y,row,H,K,J⟩,Y,_,_,_,hv⟩;refine .inr ⟨B',a',cap,rfl,ka,k1,k2,m1,k4,k5,?_,m2⟩;cases row with
     |ints k xs=>exact W
     |pvs β e xs=>
      refine⟨W.1,λi x c y H K=>?_⟩;obtain⟨v,U,O,N⟩:=W.2 i x c y H K;refine⟨v,U,O,N.mono (λB o hb=>Z β B o (λe=>?_) hb) (λ_ _ _=>rfl)⟩;subst e;have:=OW J;cases this
     |cells e cs=>cases W
     |own e xs hs=>cases W
theorem Dc: ∀{ids:List Nat} {b n j:Nat},As b ids n=some j->∃i,j=n+i/\ids[i]?=some b
 | [],b,n,j,h=>by simp[As]at h
 |m::r,b,n,j,h=>by
  simp only[As]at h;cases H:Nat.beq m b with
  |true=>rw[H]at h;simp at h;subst h;exact⟨0,rfl,by simp[bZ.1 H]⟩
  |false=>
   rw[H]at h;simp only[yg]at h;obtain⟨i,rfl,J⟩:=Dc h;exact⟨i+1,by omega,by simpa using J⟩
theorem wO: ∀{ids:List Nat} {i j b:Nat},eN ids=true->ids[i]?=some b->ids[j]?=some b->i=j
 | [],i,j,b,_,h,_=>by simp at h
 |m::r,i,j,b,hn,J,H=>by
  simp only[eN,yc,yx]at hn;have K: ∀k:Nat,r[k]?=some m->False:=λk M=>by
   have:=sX.2 (yj M);rw[this]at hn;simp at hn
  cases i with
  |zero=>
   cases j with
   |zero=>rfl
   |succ j=>simp at J H;subst J;exact(K j H).elim
  |succ i=>
   cases j with
   |zero=>simp at J H;subst H;exact(K i J).elim
   |succ j=>rw[wO (ids:=r) (i:=i) (j:=j) hn.2 (by simpa using J) (by simpa using H)]
def yV(m:Nat)(keep:Bool)(G:Gh)(mem:aO)(ids:List Nat):Nat->Nat->Option Gi:=λj g=>(ids[j]?).bind λb=>(rK mem b).bind λh=>if g=iC m keep (nS mem b) j h then G.loc b h else if j<m/\g=0 then G.loc b 0 else none
theorem nL{mem:aO}{b g:Nat}:rK mem b=some g↔∃x,mem[b]?=some (some x)/\x.gen=g:=by
 unfold rK;split
 ·rename_i x K;constructor
  ·intro h;exact⟨x,K,by simpa using h⟩
  ·rintro⟨y,H,rfl⟩;rw[K]at H;simp at H;subst H;rfl
 ·rename_i J;constructor
  ·intro h;simp at h
  ·rintro⟨y,H,_⟩;exact absurd H (J y)
theorem pC{mem:aO}{b:Nat}{x:bV}(h:mem[b]?=some (some x)):nS mem b=x.row.isCells:=by unfold nS;rw[h]
theorem Qe{m:Nat}{keep:Bool}{mem:aO}{ids:List Nat}{b g:Nat}{q:Nat×Nat}(h:gR m keep mem ids b g=some q): ∃j,q=(j,iC m keep (nS mem b) j g)/\ids[j]?=some b/\rK mem b=some g:=by
 unfold gR at h;split at h
 ·rename_i N K;cases H:Nat.beq N g with
  |false=>rw[H]at h;simp at h
  |true=>
   rw[H]at h;simp only[yh]at h;obtain⟨j,J,rfl⟩:=yf.1 h;obtain⟨i,rfl,M⟩:=Dc J;rw[<-bZ.1 H];exact⟨i,by simp,M,K⟩
 ·simp at h
theorem I5{m:Nat}{keep:Bool}{G H:Gh}{mem:aO}{ids:List Nat}(M:H.loc=yV m keep G mem ids):F2 G H (gR m keep mem ids):=by
 intro b g q L K hL;obtain⟨j,rfl,J,N⟩:=Qe K;rw[M];simp[yV,J,N,hL]
theorem fV(m:Nat)(keep:Bool)(f:mS)(mem:aO): ∀(ids:List Nat) (n j:Nat),(e7 m keep f mem n ids)[j]?=(ids[j]?).map λb=>match mem[b]? with|some (some x)=>some {gen:=iC m keep x.row.isCells (n+j) x.gen,frz:=x.frz,row:=x.row.ren f}|_=>none
 | [],n,j=>by simp[e7]
 |b::r,n,0=>by simp only[e7,yj3,yl,ya2];rfl
 |b::r,n,j+1=>by simp only[e7,yo1];rw[fV m keep f mem r (n+1) j];simp only[show n+1+j=n+(j+1) by omega]
theorem eI{m:Nat}{keep:Bool}{f:mS}{mem:aO}{ids:List Nat}{j:Nat}{y:bV}(h:(e7 m keep f mem 0 ids)[j]?=some (some y)):
  ∃b x,ids[j]?=some b/\mem[b]?=some (some x)/\y={gen:=iC m keep x.row.isCells j x.gen,frz:=x.frz,row:=x.row.ren f}:=by
 rw[fV]at h;obtain⟨b,H,h⟩:=yf.1 h;split at h
 ·rename_i x J;exact⟨b,x,H,J,by simpa using h.symm⟩
 ·simp at h
theorem Ie{m:Nat}{keep:Bool}{G O:Gh}{w:World}{mem:aO}{ids:List Nat}(hM:aJ G w mem)(hn:eN ids=true)(N:O.loc=yV m keep G mem ids)(hp: ∀β B o,G.prot β B o->O.prot β B o)
  (hnp: ∀(b:Nat) (x:bV) (B:Nat),b∈ids->mem[b]?=some (some x)->x.frz=false->fP G b x B->∀β o,¬O.prot β B o)
  (Z: ∀(b:Nat) (x:bV) (B:Nat),b∈ids->mem[b]?=some (some x)->fP G b x B->O.mine B)
  (hinn: ∀(b:Nat) (x:bV) (B i c B':Nat),b∈ids->mem[b]?=some (some x)->fP G b x B->c6 w B x.row i c B'->O.mine B'/\∀β o,¬O.prot β B' o) (hown: ∀B,w.heap.size≤B->O.mine B)
  (hlab: ∀B o,O.prot false B o->O.prot true B o) (Y: ∀β B o,O.prot β B o->B<w.heap.size):aJ O w (e7 m keep (gR m keep mem ids) mem 0 ids):=by
 have hr:=I5 N;have l0: ∀{j b:Nat} {x:bV},ids[j]?=some b->mem[b]?=some (some x)->O.loc j (iC m keep x.row.isCells j x.gen)=G.loc b x.gen:=by
  intro j b x hj H;rw[N];simp[yV,hj,nL.2 ⟨x,H,rfl⟩,pC H]
 have M: ∀{j b:Nat} {x:bV} {B:Nat},ids[j]?=some b->mem[b]?=some (some x)->fP O j {gen:=iC m keep x.row.isCells j x.gen,frz:=x.frz,row:=x.row.ren (gR m keep mem ids)} B->fP G b x B:=by
  rintro j b x B hj H ⟨L,W,hB⟩
  simp only at W;rw[l0 hj H]at W;exact⟨L,W,hB⟩
 refine⟨λj y h=>?_,λj g h=>?_,λj y g h hlt=>?_,λj j' y y' L L' B h h' W hl' hk hk'=>?_,λj j' y y' B i c B' h k hi h' k'=>?_,λj j' y y' B C i c i' c' B' h k hi h' k' hi'=>?_,hown,hlab,Y,hM.glob.mono (hp true) λ_ _ _=>rfl⟩
 ·obtain⟨b,x,U,H,rfl⟩:=eI h;have hbx:=hM.box b x H;obtain⟨o,a0,W,ha0,hm⟩:=hbx.loc;refine⟨by simp only[pP];exact hbx.e,o,a0,?_,by rw[wC];exact ha0,?_⟩
  ·simp only[pP,lW];rw[l0 U H];exact W
  ·cases o with
   |none=>simp only[lW,dX];exact hm
   |some B=>
    obtain⟨h1,h2,h3,h4,h5⟩:=hm;have hB:fP G b x B:=⟨_,W,rfl⟩
    have V:=yj U;exact⟨Z b x B V H hB,h2,h3,h4.ren (l:=true) hr (fun β B o _=>hp β B o) (λ_=>rfl) (λi c B' hi=>hinn b x B i c B' V H hB hi),λhf=>hnp b x B V H hf hB⟩
 ·rw[N];unfold yV;cases hj:ids[j]? with
  |none=>rfl
  |some b=>
   simp only[ya];cases hg:rK mem b with
   |none=>rfl
   |some g'=>
    obtain⟨x,H,_⟩:=nL.1 hg;exact absurd (by rw[fV,hj];simp[H]) (h {gen:=iC m keep x.row.isCells j x.gen,frz:=x.frz,row:=x.row.ren (gR m keep mem ids)})
 ·obtain⟨b,x,U,H,rfl⟩:=eI h;rw[N];unfold yV;simp only[U,ya,nL.2 ⟨x,H,rfl⟩,pC H];rw[if_neg (by simp only at hlt;omega),if_neg (by omega)]
 ·obtain⟨b,x,U,H,rfl⟩:=eI h;obtain⟨b',x',K,J,rfl⟩:=eI h';simp only at W hl';rw[l0 U H]at W;rw[l0 K J]at hl';obtain rfl:=hM.apart b b' x x' L L' B H J W hl' hk hk';exact wO hn U K
 ·obtain⟨b,x,U,H,rfl⟩:=eI h;obtain⟨b',x',K,J,rfl⟩:=eI h';exact hM.inA b b' x x' B i c B' H (M U H k) (c6.ren.1 hi) J (M K J k')
 ·obtain⟨b,x,U,H,rfl⟩:=eI h;obtain⟨b',x',K,J,rfl⟩:=eI h';obtain⟨rfl,h2⟩:=hM.inB b b' x x' B C i c i' c' B' H (M U H k) (c6.ren.1 hi) J (M K J k') (c6.ren.1 hi');exact⟨wO hn U K,h2⟩
def Gh.drop(G:Gh)(b0:Nat):Gh:={G with loc:=λb g=>if b=b0 then none else G.loc b g}
theorem gS: ∀{cs:List AV} {j:Nat} {y:AV} {b:Nat},cs[j]?=some y->b∈y.refs->b∈AV.refsAll cs
 | [],j,y,b,h,_=>by simp at h
 |c::cs,0,y,b,h,H=>by simp at h;subst h;simp[AV.refsAll,H]
 |c::cs,j+1,y,b,h,H=>by simp[AV.refsAll,gS (cs:=cs) (j:=j) (by simpa using h) H]
theorem Gh.drop_loc{G:Gh}{b0 b g:Nat}(h:b≠b0):(G.drop b0).loc b g=G.loc b g:=by simp[Gh.drop,h]
theorem VR.drop{G:Gh}{w:World}{b0:Nat}{a:AV}{v:Value}(h:VR G w a v):b0∉a.refs->VR (G.drop b0) w a v:=by
 induction h with
 |lit v h=>intro _;exact .lit v h
 |imm β p v h hs=>intro _;exact .imm β p v h hs
 |unkB b=>intro _;exact .unkB b
 |dead v W V=>intro _;exact .dead v W V
 |ptr b g i c L B N K=>intro hn;exact .ptr b g i c L B (by rw[Gh.drop_loc (by rintro rfl;exact hn (by simp[AV.refs]))];exact N) K
 |ms b g o n cap L B N K hn O hf=>intro H;exact .ms b g o n cap L B (by rw[Gh.drop_loc (by rintro rfl;exact H (by simp[AV.refs]))];exact N) K hn O hf
 |msNil b g L N K=>intro hn;exact .msNil b g L (by rw[Gh.drop_loc (by rintro rfl;exact hn (by simp[AV.refs]))];exact N) K
 |msZ b g o B oo L N K ho O=>intro hn;exact .msZ b g o B oo L (by rw[Gh.drop_loc (by rintro rfl;exact hn (by simp[AV.refs]))];exact N) K ho O
 |msw b g cap L B N K hn hf=>intro H;exact .msw b g cap L B (by rw[Gh.drop_loc (by rintro rfl;exact H (by simp[AV.refs]))];exact N) K hn hf
 |mswNil b g L N K hn=>intro H;exact .mswNil b g L (by rw[Gh.drop_loc (by rintro rfl;exact H (by simp[AV.refs]))];exact N) K hn
 |el β p c B o cv h Y=>intro _;exact .el β p c B o cv h Y
 |fn f' fi ca fv cv W V hf hc Z U=>
  intro hn;simp only[AV.refs,yr1,not_or]at hn;exact .fn f' _ _ fv cv W V (λj y J=>Z j y J (λh=>hn.1 (gS J h))) (λj y J=>U j y J (λh=>hn.2 (gS J h)))
 |agg cs cvs M h ih=>intro hn;simp only[AV.refs]at hn;exact .agg _ cvs M (λj y J=>ih j y J (λh=>hn (gS J h)))
 |tup cs cvs M h ih=>intro hn;simp only[AV.refs]at hn;exact .tup _ cvs M (λj y J=>ih j y J (λh=>hn (gS J h)))
theorem wH{b i c:Nat}{a:AV}: ∀{hs:List (Nat×Nat×AV)},aI i c hs=some a->b∈a.refs->b∈gL hs
 | [],h,_=>by cases h
 |(i',c',v)::r,h,H=>by
  simp only[aI]at h;simp only[gL,yr1];split at h
  ·obtain rfl:=yb h;exact .inl H
  ·exact .inr (wH h H)
theorem jR.drop{G:Gh}{w:World}{b0 B a:Nat}{r:bC}(h:jR G w B a r)(hn:b0∉r.refs):jR (G.drop b0) w B a r:=by
 cases r with
 |ints k xs=>exact h
 |pvs β e xs=>exact h
 |cells e cs=>exact⟨h.1,λj y K=>by obtain⟨v,h1,h2,V⟩:=h.2 j y K;exact⟨v,h1,h2,V.drop (λO=>hn (gS K O))⟩⟩
 |own e xs hs=>
  refine⟨h.1,h.2.1,λi x c y Z K=>?_⟩;obtain⟨v,hv,U,H⟩:=h.2.2 i x c y Z K;refine⟨v,hv,U,?_⟩;cases N:aI i c hs with
  |some a=>rw[N]at H;exact VR.drop H (λO=>hn (wH N O))
  |none=>
   rw[N]at H;rcases H with H|⟨row,J,H⟩
   ·exact .inl H
   ·refine .inr ⟨row,J,?_⟩;rcases H with H|⟨B',a',cap,rfl,ka,k1,W,Y,k4,k5,M,k7⟩
    ·exact .inl H
    ·refine .inr ⟨B',a',cap,rfl,ka,k1,W,Y,k4,k5,?_,k7⟩;cases row with
     |ints k xs=>exact M
     |pvs β e xs=>exact M
     |cells e cs=>cases M
     |own e xs hs=>cases M
end Go.Ab
end
section
namespace Go.Ab
variable [cS]
theorem fL{b:Nat}: ∀{l r:List Nat},dC b (l++r)=dC b l+dC b r
 | [],r=>by simp[dC]
 |m::l,r=>by
  simp only[yo3,dC];cases Nat.beq m b with
  |true=>simp only[yh];rw[fL (l:=l)];omega
  |false=>simp only[yg];exact fL (l:=l)
theorem k9{b:Nat}: ∀{l:List Nat},b∈l->1≤dC b l
 | [],h=>by cases h
 |m::l,h=>by
  simp only[dC];cases H:Nat.beq m b with
  |true=>simp only[yh];omega
  |false=>
   simp only[yg];rcases yk1.1 h with rfl|h
   ·simp at H
   ·exact k9 h
theorem mY{b:Nat}: ∀{mem:aO} {j:Nat} {x:bV},mem[j]?=some (some x)->dC b x.row.refs≤dC b (cV mem)
 | [],j,x,h=>by simp at h
 |some y::m,0,x,h=>by simp at h;subst h;simp only[cV,fL];omega
 |none::m,0,x,h=>by simp at h
 |some y::m,j+1,x,h=>by have:=mY (b:=b) (mem:=m) (j:=j) (by simpa using h);simp only[cV,fL];omega
 |none::m,j+1,x,h=>by have:=mY (b:=b) (mem:=m) (j:=j) (by simpa using h);simpa only[cV]using this
theorem Cs{b:Nat}: ∀{mem:aO} {j j':Nat} {x x':bV},mem[j]?=some (some x)->mem[j']?=some (some x')->j≠j'->dC b x.row.refs+dC b x'.row.refs≤dC b (cV mem)
 | [],j,j',x,x',h,_,_=>by simp at h
 |some y::m,0,0,x,x',h,H,hn=>absurd rfl hn
 |none::m,0,j',x,x',h,H,hn=>by simp at h
 |none::m,j+1,0,x,x',h,H,hn=>by simp at H
 |some y::m,0,j'+1,x,x',h,H,hn=>by
  simp at h;subst h;have:=mY (b:=b) (mem:=m) (j:=j') (by simpa using H);simp only[cV,fL];omega
 |some y::m,j+1,0,x,x',h,H,hn=>by
  simp at H;subst H;have:=mY (b:=b) (mem:=m) (j:=j) (by simpa using h);simp only[cV,fL];omega
 |some y::m,j+1,j'+1,x,x',h,H,hn=>by
  have:=Cs (b:=b) (mem:=m) (j:=j) (j':=j') (by simpa using h) (by simpa using H) (by omega);simp only[cV,fL];omega
 |none::m,j+1,j'+1,x,x',h,H,hn=>by
  have:=Cs (b:=b) (mem:=m) (j:=j) (j':=j') (by simpa using h) (by simpa using H) (by omega);simpa only[cV]using this
theorem GF{b:Nat}: ∀{hs:List (Nat×Nat×AV)} {k:Nat} {h:Nat×Nat×AV},hs[k]?=some h->dC b (gL hs)=dC b h.2.2.refs+dC b (gL (dB hs k))
 | [],k,h,H=>by simp at H
 |(i,c,v)::r,0,h,H=>by simp at H;subst H;simp only[gL,dB,fL]
 |(i,c,v)::r,k+1,h,H=>by
  have:=GF (b:=b) (hs:=r) (k:=k) (h:=h) (by simpa using H);simp only[gL,dB,fL];omega
theorem Jh{α:Type}: ∀{l:List α} {k:Nat},∀x∈dB l k,x∈l
 | [],k,x,h=>by simp[dB]at h
 |a::r,0,x,h=>yk _ h
 |a::r,k+1,x,h=>by
  simp only[dB]at h;rcases yk1.1 h with rfl|h
  ·exact yn ..
  ·exact yk _ (Jh x h)
theorem Dl{c i:Nat}{v:AV}: ∀{hs:List (Nat×Nat×AV)} {k:Nat},hs[k]?=some (i,c,v)->mV c (dB hs k)=none->
  aI i c hs=some v/\(∀H,H≠i->aI H c hs=none)/\∀H J,J≠c->aI H J (dB hs k)=aI H J hs
 | [],k,K,_=>by simp at K
 |(Z,U,v2)::r,0,K,hf=>by
  simp at K;obtain⟨rfl,rfl,rfl⟩:=K;simp only[dB]at hf;refine⟨by simp[aI],λH N=>?_,λH J hc=>?_⟩
  ·simp only[aI];rw[if_neg (λh=>N h.1.symm)];exact eH hf
  ·simp only[dB,aI];rw[if_neg (λh=>hc h.2.symm)]
 |(Z,U,v2)::r,k+1,K,hf=>by
  simp only[dB,mV]at hf;cases O:Nat.beq c U with
  |true=>rw[O]at hf;cases hf
  |false=>
   rw[O]at hf;simp only[yg]at hf;have M:U≠c:=by rintro rfl;simp at O
   obtain⟨Y,W,V⟩:=Dl (hs:=r) (k:=k) (by simpa using K) hf;refine⟨?_,λH N=>?_,λH J hc=>?_⟩
   ·simp only[aI];rw[if_neg (λh=>M h.2)];exact Y
   ·simp only[aI];rw[if_neg (λh=>M h.2)];exact W H N
   ·simp only[dB,aI];split
    ·rfl
    ·exact V H J hc
theorem OR.drop{G:Gh}{w:World}{b0:Nat}{y:PV}{v:Value}(h:OR G w y v):OR (G.drop b0) w y v:=by
 rcases h with J|⟨row,H,J⟩
 ·exact .inl J
 ·refine .inr ⟨row,H,?_⟩;rcases J with J|⟨B',V,cap,rfl,U,k1,M,N,W,Y,K,O⟩
  ·exact .inl J
  ·refine .inr ⟨B',V,cap,rfl,U,k1,M,N,W,Y,?_,O⟩;cases row with
   |ints k xs=>exact K
   |pvs β e xs=>exact K
   |cells e cs=>cases K
   |own e xs hs=>cases K
theorem LA{G:Gh}{w:World}{mem:aO}{v:AV}{q:Nat×PV}{u:Value}(hM:aJ G w mem)(h:BU mem v=some q)(hv:VR G w v u):
  q.2.cells= [q.2]/\q.1∈v.refs/\OR G w q.2 u/\∃x,mem[q.1]?=some (some x)/\∀B' Y n cap,u= .slice (some ⟨B',Y,none⟩) n cap->fP G q.1 x B':=by
 have whole: ∀{b g:Nat} {x:bV} {z:PV} {row:bC},mem[b]?=some (some x)->x.gen=g->x.frz=false->x.row=row->dG z=some row->IT G w 0 0 row=IT G w 0 0 row->(∀B a,jR G w B a row->IT G w B a row)->VR G w (.msw b g) u->
   OR G w z u/\∀B' Y n cap,u= .slice (some ⟨B',Y,none⟩) n cap->fP G b x B':=by
  intro b g x z row hm V hf H hz _ hP hv;subst V;cases hv with
  |msw _ _ cap L B Z hb hn K=>
   have hB:fP G b x B:=⟨L,Z,hb⟩
   obtain⟨a0,J,W,O,N,h3,h4,h5⟩:=hM.blk hm hB;rw[Z]at J;obtain rfl:=yb J;rw[H]at h4 hn K⊢
   refine⟨.inr ⟨row,hz,.inr ⟨B,a0,cap,rfl,by rw[<-H];exact W,hn,K,O,N,h3,hP B _ h4,h5 hf⟩⟩,λB' Y n M h=>?_⟩;simp only[Value.slice.injEq,Option.some.injEq,Addr.mk.injEq,and_true]at h;obtain⟨⟨rfl,_⟩,_⟩:=h;exact hB
  |mswNil _ _ L Z hb hn=>
   obtain⟨oo,a0,J,W,hmm⟩:=(hM.box b x hm).loc;rw[Z]at J;obtain rfl:=yb J;rw[H]at hn;exact⟨.inr ⟨row,hz,.inl ⟨rfl,hn⟩⟩,λB' Y n M h=>by cases h⟩
 have part: ∀{b g n:Nat} {x:bV} {z:PV} {row row':bC},mem[b]?=some (some x)->x.gen=g->x.frz=false->x.row=row->row'.len=n->row'.e=row.e->row'.isInts=row.isInts->dG z=some row'->(∀B a,jR G w B a row->IT G w B a row')->VR G w (.ms b g 0 n) u->
   OR G w z u/\∀B' Y n cap,u= .slice (some ⟨B',Y,none⟩) n cap->fP G b x B':=by
  intro b g n x z row row' hm V hf H U he hri hz hP hv;subst V;cases hv with
  |ms _ _ _ _ cap L B Z hb hn hon K=>
   have hB:fP G b x B:=⟨L,Z,hb⟩
   obtain⟨a0,J,W,O,N,h3,h4,h5⟩:=hM.blk hm hB;rw[Z]at J;obtain rfl:=yb J;rw[H]at h4 K⊢
   simp only[ys3,ye1,ya2]at K⊢
   refine⟨.inr ⟨row',hz,.inr ⟨B,a0,cap,by rw[U],by rw[hri,<-H];exact W,by rw[U];exact hn,by rw[he];exact K,O,N,h3,hP B _ h4,h5 hf⟩⟩,λB' Y n M h=>?_⟩;simp only[Value.slice.injEq,Option.some.injEq,Addr.mk.injEq,and_true]at h;obtain⟨⟨rfl,_⟩,_⟩:=h;exact hB
  |msNil _ _ L Z hb=>exact⟨.inr ⟨row',hz,.inl ⟨rfl,U⟩⟩,λB' Y n M h=>by cases h⟩
  |msZ _ _ _ B oo L Z hb ho hon=>omega
 have hle: ∀{e:Nat} {xs:List PV} {b:Nat} {x:bV},mem[b]?=some (some x)->x.row= .pvs false e xs->∀ys,dG (.sl e ys)=some (.pvs false e ys):=by
  intro e xs b x hm H ys;have:=(hM.box b x hm).e;rw[H]at this;simp only[dG,guardB,dA.2 (show 1≤e from this),yh]
 unfold BU at h;split at h
 ·rename_i b g;rw[bind_some]at h;obtain⟨x,hx,h⟩:=h;obtain⟨hm,V⟩:=box?_some hx;cases hf:x.frz with
  |true=>rw[hf]at h;cases h
  |false=>
   rw[hf]at h;simp only[yg]at h;split at h
   ·rename_i k xs H;obtain rfl:=yb h;obtain⟨O,N⟩:=whole (z:= .ints k xs) hm V hf H rfl rfl (λB _ h=>h) hv;exact⟨rfl,by simp[AV.refs],O,x,hm,N⟩
   ·rename_i e xs H;obtain rfl:=yb h;obtain⟨O,N⟩:=whole (z:= .sl e xs) hm V hf H (hle hm H xs) rfl (λB _ h=>h) hv;exact⟨rfl,by simp[AV.refs],O,x,hm,N⟩
   ·cases h
 ·rename_i b g n;rw[bind_some]at h;obtain⟨x,hx,h⟩:=h;obtain⟨hm,V⟩:=box?_some hx;cases hf:x.frz with
  |true=>rw[hf]at h;cases h
  |false=>
   rw[hf]at h;simp only[yg]at h;split at h
   ·rename_i k xs H;rw[aA]at h;obtain⟨hn,h⟩:=h;have hn:=dA.1 hn;obtain rfl:=yb h
    obtain⟨O,N⟩:=part (z:= .ints k (xs.take n)) (row':= .ints k (xs.take n)) hm V hf H (by simp[bC.len];omega) rfl rfl rfl (λB _ h i x hi=>by
     have hi2:=(yd.1 hi).1;rw[yy1,if_pos (by simp at hi2;omega)]at hi
     exact h i x hi) hv
    exact⟨rfl,by simp[AV.refs],O,x,hm,N⟩
   ·rename_i e xs H;rw[aA]at h;obtain⟨hn,h⟩:=h;have hn:=dA.1 hn;obtain rfl:=yb h
    obtain⟨O,N⟩:=part (z:= .sl e (xs.take n)) (row':= .pvs false e (xs.take n)) hm V hf H (by simp[bC.len];omega) rfl rfl (hle hm H _) (λB _ h=>⟨λx hx=>h.1 x (yk3 hx),λi x c y hi hy=>by
     have hi2:=(yd.1 hi).1;rw[yy1,if_pos (by simp at hi2;omega)]at hi
     exact h.2 i x c y hi hy⟩) hv
    exact⟨rfl,by simp[AV.refs],O,x,hm,N⟩
   ·cases h
 ·cases h
theorem Qk{G:Gh}{w:World}{mem mem':aO}{b k:Nat}{vs:List AV}(hM:aJ G w mem)(h:sQ mem b k=some mem')
  (hcnt: ∀e xs hs gen frz hh b0,mem[b]?=some (some {gen,frz,row:= .own e xs hs})->hs[k]?=some hh->rO hh.2.2=some b0->dC b0 (AV.refsAll vs++cV mem)=1):
  ∃b0,aJ (G.drop b0) w mem'/\b0∉AV.refsAll vs/\b0≠b/\(∀H:Nat,H≠b0->(∀x:bV,mem[H]?=some (some x)->∃x':bV,mem'[H]?=some (some x')/\x'.gen=x.gen/\x'.frz=x.frz/\x'.row.isCells=x.row.isCells)/\(mem[H]?=some none->mem'[H]?=some none))/\
   (∃(hh:Nat×Nat×AV) (e:Nat) (xs:List PV) (hs:List (Nat×Nat×AV)) (gen:Nat) (frz:Bool),mem[b]?=some (some {gen,frz,row:= .own e xs hs})/\hs[k]?=some hh/\rO hh.2.2=some b0):=by
 unfold sQ at h;split at h
 ·rename_i gen frz e xs hs hm;rw[bind_some]at h;obtain⟨hh,hk,h⟩:=h;obtain⟨i,c,v⟩:=hh;simp only at h;rw[bind_some]at h;obtain⟨p,hp,h⟩:=h;rw[bind_some]at h;obtain⟨y,hy,h⟩:=h;rw[bind_some]at h;obtain⟨q,M,h⟩:=h;rw[aA]at h;obtain⟨hg,h⟩:=h;obtain rfl:=yb h;simp only[yc,yx]at hg;obtain⟨⟨g1,g2⟩,g3⟩:=hg;have g3:=Option.isNone_iff_eq_none.1 g3;obtain⟨b0,z⟩:=q;simp only at g1 g2⊢
  have O:rO v=some b0:=by
   unfold BU at M;split at M
   ·rw[bind_some]at M;obtain⟨x,_,M⟩:=M;cases hf:x.frz<;>rw[hf]at M
    ·simp only[yg]at M;split at M
     ·cases M;rfl
     ·cases M;rfl
     ·cases M
    ·cases M
   ·rw[bind_some]at M;obtain⟨x,_,M⟩:=M;cases hf:x.frz<;>rw[hf]at M
    ·simp only[yg]at M;split at M
     ·rw[aA]at M;cases M.2;rfl
     ·rw[aA]at M;cases M.2;rfl
     ·cases M
    ·cases M
   ·cases M
  have hcnt:=hcnt e xs hs gen frz _ b0 hm hk O;obtain⟨o1,o2,o3⟩:=Dl hk g3;have hne:b0≠b:=λh=>by rw[bZ.2 h]at g2;cases g2
  have hbl:b<mem.length:=(yd.1 hm).1
  -- the hole
  have hbx:=hM.box b _ hm;have hrefs:b0∈v.refs:=by
   unfold rO at O;split at O
   ·cases O;simp[AV.refs]
   ·cases O;simp[AV.refs]
   ·cases O
  have hc1:=k9 hrefs;have hdrop:=GF (b:=b0) hk;simp only at hdrop;rw[fL]at hcnt;have hbm:dC b0 (gL hs)≤dC b0 (cV mem):=mY (b:=b0) hm;have hnv:b0∉AV.refsAll vs:=λh=>by have:=k9 h;omega
  have hnd:b0∉gL (dB hs k):=λh=>by have:=k9 h;omega
  have hno: ∀{H:Nat} {x:bV},H≠b->mem[H]?=some (some x)->b0∉x.row.refs:=by
   intro H x hb W h;have:=k9 h;have U:dC b0 (gL hs)+dC b0 x.row.refs≤dC b0 (cV mem):=Cs (b:=b0) hm W (λh=>hb h.symm);omega
  -- where the row stands: it has an element, hence a block
  obtain⟨oo,a0,hl,ha0,hmm⟩:=hbx.loc;have hxl:i<xs.length:=(yd.1 hp).1;cases oo with
  |none=>simp only[bC.len]at hmm;omega
  |some B=>
   obtain⟨m1,m2,m3,hr,m5⟩:=hmm;have hB:fP G b {gen,frz,row:= .own e xs hs} B:=⟨_,hl,rfl⟩
   obtain⟨r1,r2,r3⟩:=hr;obtain⟨u,hu,hu1,hor⟩:=r3 i p c y hp hy;rw[o1]at hor;obtain⟨z1,z2,z3,x0,hx0,hzB⟩:=LA hM M hor;simp only at z1 z2 z3 hx0 hzB;have hcell: ∀{K:Nat} {x':PV} {J:Nat} {y':PV},(xs.set i (lT p c z))[K]?=some x'->x'.cells[J]?=some y'->(K=i/\J=c/\y'=z)\/(¬(K=i/\J=c)/\∃x1,xs[K]?=some x1/\x1.cells[J]?=some y'):=by
    intro K x' J y' V U;rcases MM V with ⟨rfl,rfl⟩|⟨hn,V⟩
    ·rw[Ar hy z1]at U;by_cases N:J=c
     ·rw[if_pos N]at U;exact .inl ⟨rfl,N,(yb U).symm⟩
     ·rw[if_neg N]at U;exact .inr ⟨λh=>N h.2,p,hp,U⟩
    ·exact .inr ⟨λh=>hn h.1,x',V,U⟩
   have Z: ∀{H:Nat} {zz:bV},((mem.set b (some {gen,frz,row:= .own e (xs.set i (lT p c z)) (dB hs k)})).set b0 none)[H]?=some (some zz)->
     H≠b0/\((H=b/\zz={gen,frz,row:= .own e (xs.set i (lT p c z)) (dB hs k)})\/(H≠b/\mem[H]?=some (some zz))):=by
    intro H zz h;by_cases e0:H=b0
    ·subst e0;by_cases hl0:H<(mem.set b (some {gen,frz,row:= .own e (xs.set i (lT p c z)) (dB hs k)})).length
     ·rw[yt hl0]at h;cases h
     ·rw[yc1 (by simp at hl0⊢;omega)]at h;cases h
    ·rw[yp (λx=>e0 x.symm)]at h;refine⟨e0,?_⟩;by_cases Y:H=b
     ·subst Y;rw[yt hbl]at h;exact .inl ⟨rfl,by simpa using h.symm⟩
     ·rw[yp (λx=>Y x.symm)]at h;exact .inr ⟨Y,h⟩
   have hblk: ∀{H:Nat} {zz:bV} {C:Nat},H≠b0->fP (G.drop b0) H zz C->fP G H zz C:=by
    rintro H zz C hn ⟨L,l1,k1⟩
    rw[Gh.drop_loc hn]at l1;exact⟨L,l1,k1⟩
   have hblkb: ∀{C:Nat},fP (G.drop b0) b {gen,frz,row:= .own e (xs.set i (lT p c z)) (dB hs k)} C->C=B:=by
    intro C h;obtain⟨L,l1,k1⟩:=hblk (λh=>hne h.symm) h;simp only at l1;rw[hl]at l1;obtain rfl:=yb l1;exact(yb k1).symm
   -- inner blocks
   have hinn: ∀{K J B':Nat},c6 w B (bC.own e (xs.set i (lT p c z)) (dB hs k)) K J B'->(K=i/\J=c/\fP G b0 x0 B')\/c6 w B (bC.own e xs hs) K J B':=by
    rintro K J B' ⟨⟨x',y',row,V,U,h3⟩,ho,a',n,cap,hcl⟩
    rcases hcell V U with ⟨rfl,rfl,rfl⟩|⟨hn,x1,V,U⟩
    ·rw[hu]at hcl;exact .inl ⟨rfl,rfl,hzB B' a' n cap (yb hcl)⟩
    ·refine .inr ⟨⟨x1,y',row,V,U,h3⟩,?_,a',n,cap,hcl⟩;by_cases N:J=c
     ·subst N;exact o2 K (λh=>hn ⟨h,rfl⟩)
     ·rw[<-o3 K J N];exact ho
   have hin0: ∀{H:Nat} {zz:bV} {C K J B':Nat},((mem.set b (some {gen,frz,row:= .own e (xs.set i (lT p c z)) (dB hs k)})).set b0 none)[H]?=some (some zz)->fP (G.drop b0) H zz C->c6 w C zz.row K J B'->
     (H=b/\K=i/\J=c/\fP G b0 x0 B')\/(∃z0,mem[H]?=some (some z0)/\fP G H z0 C/\c6 w C z0.row K J B'):=by
    intro H zz C K J B' h hC hi;obtain⟨hn,h⟩:=Z h;rcases h with ⟨rfl,rfl⟩|⟨hn1,h⟩
    ·obtain rfl:=hblkb hC;rcases hinn hi with ⟨V,U,h3⟩|hi
     ·exact .inl ⟨rfl,V,U,h3⟩
     ·exact .inr ⟨_,hm,hB,hi⟩
    ·exact .inr ⟨zz,h,hblk hn hC,hi⟩
   have hbk0: ∀{H:Nat} {zz:bV} {C:Nat},((mem.set b (some {gen,frz,row:= .own e (xs.set i (lT p c z)) (dB hs k)})).set b0 none)[H]?=some (some zz)->fP (G.drop b0) H zz C->H≠b0/\∃z0,mem[H]?=some (some z0)/\fP G H z0 C:=by
    intro H zz C h hC;obtain⟨hn,h⟩:=Z h;rcases h with ⟨rfl,rfl⟩|⟨hn1,h⟩
    ·obtain rfl:=hblkb hC;exact⟨hn,_,hm,hB⟩
    ·exact⟨hn,zz,h,hblk hn hC⟩
   refine⟨b0,⟨λH zz h=>?_,λH g h=>?_,λH zz g h hlt=>?_,λb1 b2 z1 z2 L1 L2 C V U l1 l2 k1 k2=>?_,λb1 b2 z1 z2 C K J B' V k1 hi U k2=>?_,λb1 b2 z1 z2 C D K J i2 c2 B' V k1 hi U k2 hi2=>?_,hM.own,hM.lab,hM.away,hM.glob⟩,hnv,hne,λH hb'=>⟨λx W=>?_,λW=>?_⟩,⟨_,_,_,_,_,_,hm,hk,O⟩⟩
   ·obtain⟨hn,h⟩:=Z h;rcases h with ⟨rfl,rfl⟩|⟨hn1,h⟩
    ·refine⟨hbx.e,some B,a0,by rw[Gh.drop_loc hn];simpa[bC.e,bC.len]using hl,λ_=>ha0 rfl,m1,m2,m3,?_,m5⟩;refine⟨λx W=>by rw[yg3];exact r1 x (Jh x W),λx W=>?_,λK x' J y' V U=>?_⟩
     ·rcases ym2 W with h|h
      ·exact r2 x h
      ·rw[h,Kq hy z1];exact r2 p (yj hp)
     ·rcases hcell V U with ⟨rfl,rfl,rfl⟩|⟨hn',x1,V,U⟩
      ·refine⟨u,hu,hu1,?_⟩;rw[eH g3];exact OR.drop z3
      ·obtain⟨v',hv',hv1',ho'⟩:=r3 K x1 J y' V U;refine⟨v',hv',hv1',?_⟩;by_cases N:J=c
       ·subst N;rw[eH g3];rw[o2 K (λh=>hn' ⟨h,rfl⟩)]at ho';exact OR.drop ho'
       ·rw[o3 K J N];cases hq2:aI K J hs with
        |some a=>
         rw[hq2]at ho';exact VR.drop ho' (λhb=>hnd (wH (i:=K) (c:=J) (by rw[o3 K J N];exact hq2) hb))
        |none=>rw[hq2]at ho';exact OR.drop ho'
    ·have hb:=hM.box H zz h;obtain⟨o',a0,hlo,ha0,hmo⟩:=hb.loc;refine⟨hb.e,o',a0,by rw[Gh.drop_loc hn];exact hlo,ha0,?_⟩;cases o' with
     |none=>exact hmo
     |some C=>exact⟨hmo.1,hmo.2.1,hmo.2.2.1,hmo.2.2.2.1.drop (hno hn1 h),hmo.2.2.2.2⟩
   ·by_cases e0:H=b0
    ·subst e0;simp[Gh.drop]
    ·rw[Gh.drop_loc e0];refine hM.unset H g λx W=>?_;by_cases Y:H=b
     ·subst Y;exact h _ (by rw[yp (λx=>e0 x.symm),yt hbl])
     ·exact h x (by rw[yp (λx=>e0 x.symm),yp (λx=>Y x.symm)];exact W)
   ·obtain⟨hn,h⟩:=Z h;rw[Gh.drop_loc hn];rcases h with ⟨rfl,rfl⟩|⟨hn1,h⟩
    ·exact hM.gens _ _ g hm hlt
    ·exact hM.gens _ _ g h hlt
   ·obtain⟨n1,y1,a1,d1⟩:=hbk0 V ⟨L1,l1,k1⟩;obtain⟨n2,y2,a2,d2⟩:=hbk0 U ⟨L2,l2,k2⟩;obtain⟨M1,d1,Y⟩:=d1;obtain⟨M2,d2,e2⟩:=d2;exact hM.apart _ _ y1 y2 M1 M2 C a1 a2 d1 d2 Y e2
   ·obtain⟨n2,y2,a2,d2⟩:=hbk0 U k2;rcases hin0 V k1 hi with ⟨rfl,rfl,rfl,hb0⟩|⟨z0,a1,d1,hi⟩
    ·obtain⟨M1,d1,Y⟩:=hb0;obtain⟨M2,d2,e2⟩:=d2;exact n2 (hM.apart _ _ x0 y2 M1 M2 B' hx0 a2 d1 d2 Y e2).symm
    ·exact hM.inA _ _ z0 y2 C K J B' a1 d1 hi a2 d2
   ·rcases hin0 V k1 hi with ⟨rfl,rfl,rfl,hb0⟩|⟨z0,a1,d1,hi⟩<;>rcases hin0 U k2 hi2 with ⟨rfl,rfl,rfl,hb0'⟩|⟨z0',a2,d2,hi2⟩
    ·exact⟨rfl,rfl,rfl⟩
    ·exact absurd hb0 (hM.inA _ _ z0' x0 D i2 c2 B' a2 d2 hi2 hx0)
    ·exact absurd hb0' (hM.inA _ _ z0 x0 C K J B' a1 d1 hi hx0)
    ·exact hM.inB _ _ z0 z0' C D K J i2 c2 B' a1 d1 hi a2 d2 hi2
   ·by_cases Y:H=b
    ·subst Y;rw[hm]at W;simp at W;subst W;exact⟨{gen,frz,row:= .own e (xs.set i (lT p c z)) (dB hs k)},by rw[yp (λx=>hb' x.symm),yt hbl],rfl,rfl,rfl⟩
    ·exact⟨x,by rw[yp (λx=>hb' x.symm),yp (λx=>Y x.symm)];exact W,rfl,rfl,rfl⟩
   ·have Y:H≠b:=by rintro rfl;rw[hm]at W;cases W
    rw[yp (λx=>hb' x.symm),yp (λx=>Y x.symm)];exact W
 ·cases h
theorem Az{m:Nat}{refs:List Nat}{mem:aO}{all:List (Nat×Nat×AV)}: ∀{hs:List (Nat×Nat×AV)} {n k:Nat},m7 m refs mem all hs n=some k->∃j h,k=n+j/\hs[j]?=some h/\nP m refs mem h.2.2=true
 | [],n,k,h=>by cases h
 |(i,c,v)::r,n,k,h=>by
  simp only[m7]at h;cases H:(nP m refs mem v&&(mV c (dB all n)).isNone)with
  |true=>
   rw[H]at h;obtain rfl:=yb h;simp only[yc]at H;exact⟨0,_,rfl,rfl,H.1⟩
  |false=>
   rw[H]at h;simp only[yg]at h;obtain⟨j,q,rfl,J,K⟩:=Az h;exact⟨j+1,q,by omega,by simpa using J,K⟩
theorem BD{m:Nat}{refs:List Nat}{mem:aO}: ∀{l:aO} {n:Nat} {q:Nat×Nat},kK m refs mem l n=some q->
  ∃j gen frz e xs hs h,q.1=n+j/\l[j]?=some (some {gen,frz,row:= .own e xs hs})/\hs[q.2]?=some h/\nP m refs mem h.2.2=true
 | [],n,q,h=>by cases h
 |x::r,n,q,h=>by
  have next:kK m refs mem r (n+1)=some q->∃j gen frz e xs hs h,q.1=n+j/\(x::r)[j]?=some (some {gen,frz,row:= .own e xs hs})/\hs[q.2]?=some h/\nP m refs mem h.2.2=true:=by
   intro h;obtain⟨j,gen,frz,e,xs,hs,H,h1,N,J,O⟩:=BD h;exact⟨j+1,gen,frz,e,xs,hs,H,by omega,by simpa using N,J,O⟩
  simp only[kK]at h;split at h
  ·rename_i gen frz e xs hs;split at h
   ·rename_i k U;obtain rfl:=yb h;obtain⟨j,H,rfl,K,M⟩:=Az U;exact⟨0,gen,frz,e,xs,hs,H,rfl,rfl,by simpa using K,M⟩
   ·exact next h
  ·exact next h
structure BJ (G:Gh) (w:World) (mem:aO) (m:Nat) (vs:List AV) (G':Gh) (mem':aO):Prop where
 memr:aJ G' w mem'
 mine:G'.mine=G.mine
 prot:G'.prot=G.prot
 loc: ∀b g,b<m->G'.loc b g=G.loc b g
 vals: ∀(j:Nat) (y:AV) (v:Value),vs[j]?=some y->VR G w y v->VR G' w y v
 old: ∀b':Nat,b'<m->(∀x:bV,mem[b']?=some (some x)->∃x':bV,mem'[b']?=some (some x')/\x'.gen=x.gen/\x'.frz=x.frz/\x'.row.isCells=x.row.isCells)/\(mem[b']?=some none->mem'[b']?=some none)
theorem BG{w:World}{m:Nat}{vs:List AV}: ∀{n:Nat} {G:Gh} {mem mem':aO},aJ G w mem->pA m vs n mem=some mem'->∃O,BJ G w mem m vs O mem'
 |0,G,mem,mem',hM,h=>by
  obtain rfl:=yb h;exact⟨G,hM,rfl,rfl,λ_ _ _=>rfl,λ_ _ _ _ h=>h,λM _=>⟨λx H=>⟨x,H,rfl,rfl,rfl⟩,λh=>h⟩⟩
 |n+1,G,mem,mem',hM,h=>by
  simp only[pA]at h;split at h
  ·obtain rfl:=yb h;exact⟨G,hM,rfl,rfl,λ_ _ _=>rfl,λ_ _ _ _ h=>h,λM _=>⟨λx H=>⟨x,H,rfl,rfl,rfl⟩,λh=>h⟩⟩
  ·rename_i q hq;rw[bind_some]at h;obtain⟨mem1,hg,h⟩:=h;obtain⟨j,gen,frz,e,xs,hs,hh,h1,h2,Z,J⟩:=BD hq;rw[ye1]at h1;subst h1
   -- the box that is given up
   have K: ∀b0,rO hh.2.2=some b0->m≤b0/\dC b0 (AV.refsAll vs++cV mem)=1:=by
    intro b0 U;unfold nP at J;rw[U]at J;simp only[yc]at J;exact⟨dA.1 J.1.1,bZ.1 J.1.2⟩
   obtain⟨b0,Y,n1,n2,n3,⟨hh',e',xs',hs',gen',frz',k1,k2,k3⟩⟩:=Qk (vs:=vs) hM hg (λe2 xs2 hs2 gen2 frz2 hh2 b0 a1 N V=>by
    rw[h2]at a1;simp only[Option.some.injEq,bV.mk.injEq,bC.own.injEq]at a1;obtain⟨_,_,_,_,rfl⟩:=a1;rw[Z]at N;obtain rfl:=yb N
    exact(K b0 V).2)
   rw[h2]at k1;simp only[Option.some.injEq,bV.mk.injEq,bC.own.injEq]at k1;obtain⟨_,_,_,_,rfl⟩:=k1;rw[Z]at k2;obtain rfl:=yb k2;have hm0:=(K b0 k3).1;obtain⟨O,hG⟩:=BG Y h;refine⟨O,hG.memr,hG.mine,hG.prot,λb g U=>?_,λj y v hy hv=>hG.vals j y v hy (hv.drop (λhr=>n1 (gS hy hr))),λM W=>?_⟩
   ·rw[hG.loc b g U,Gh.drop_loc (by omega)]
   ·obtain⟨p1,p2⟩:=n3 M (by omega);obtain⟨r1,r2⟩:=hG.old M W;refine⟨λx H=>?_,λH=>r2 (p2 H)⟩;obtain⟨x1,a1,N,V,a4⟩:=p1 x H;obtain⟨x2,c1,c2,c3,c4⟩:=r1 x1 a1;exact⟨x2,c1,by rw[c2,N],by rw[c3,V],by rw[c4,a4]⟩
theorem aJ.drop{G:Gh}{w:World}{mem:aO}{b0:Nat}(hM:aJ G w mem)(h0:dC b0 (cV mem)=0):aJ (G.drop b0) w (mem.set b0 none):=by
 have H: ∀{b:Nat} {x:bV},(mem.set b0 none)[b]?=some (some x)->b≠b0/\mem[b]?=some (some x):=by
  intro b x h;by_cases e:b=b0
  ·subst e;by_cases M:b<mem.length
   ·rw[yt M]at h;cases h
   ·rw[yc1 (by rw[yg3];omega)]at h;cases h
  ·rw[yp (λx=>e x.symm)]at h;exact⟨e,h⟩
 have K: ∀{b:Nat} {x:bV} {B:Nat},b≠b0->fP (G.drop b0) b x B->fP G b x B:=by
  rintro b x B M ⟨L,V,hB⟩
  rw[Gh.drop_loc M]at V;exact⟨L,V,hB⟩
 have U: ∀{b:Nat} {x:bV},mem[b]?=some (some x)->b0∉x.row.refs:=by
  intro b x J hr;have h1:=mY (b:=b0) J;have h2:=k9 hr;omega
 refine⟨λb x h=>?_,λb g h=>?_,λb x g h hlt=>?_,λb Y x x' L L' B h W V hl' hk hk'=>?_,λb Y x x' B i c B' h k hi W k'=>?_,λb Y x x' B C i c i' c' B' h k hi W k' hi'=>?_,hM.own,hM.lab,hM.away,hM.glob.mono (λ_ _ h=>h) λ_ _ _=>rfl⟩
 ·obtain⟨M,J⟩:=H h;have Z:=hM.box b x J;obtain⟨o,a0,V,ha0,hm⟩:=Z.loc;refine⟨Z.e,o,a0,by rw[Gh.drop_loc M];exact V,ha0,?_⟩;cases o with
  |none=>exact hm
  |some B=>
   obtain⟨h1,h2,h3,h4,h5⟩:=hm;exact⟨h1,h2,h3,h4.drop (U J),h5⟩
 ·by_cases e:b=b0
  ·subst e;simp[Gh.drop]
  ·rw[Gh.drop_loc e];refine hM.unset b g λx J=>h x ?_;rw[yp (λx=>e x.symm)];exact J
 ·obtain⟨M,J⟩:=H h;rw[Gh.drop_loc M];exact hM.gens b x g J hlt
 ·obtain⟨M,J⟩:=H h;obtain⟨O,N⟩:=H W;rw[Gh.drop_loc M]at V;rw[Gh.drop_loc O]at hl';exact hM.apart b Y x x' L L' B J N V hl' hk hk'
 ·obtain⟨M,J⟩:=H h;obtain⟨O,N⟩:=H W;exact hM.inA b Y x x' B i c B' J (K M k) hi N (K O k')
 ·obtain⟨M,J⟩:=H h;obtain⟨O,N⟩:=H W;exact hM.inB b Y x x' B C i c i' c' B' J (K M k) hi N (K O k') hi'
theorem BJ.refl{G:Gh}{w:World}{mem:aO}{m:Nat}{vs:List AV}(hM:aJ G w mem):BJ G w mem m vs G mem:=
 ⟨hM,rfl,rfl,λ_ _ _=>rfl,λ_ _ _ _ h=>h,λb' _=>⟨λx H=>⟨x,H,rfl,rfl,rfl⟩,λh=>h⟩⟩
theorem BJ.trans{G Z V:Gh}{w:World}{mem H J:aO}{m:Nat}{vs:List AV}(M:BJ G w mem m vs Z H)(K:BJ Z w H m vs V J):BJ G w mem m vs V J:=by
 refine⟨K.memr,K.mine.trans M.mine,K.prot.trans M.prot,λb g Y=>(K.loc b g Y).trans (M.loc b g Y),λj y v U hv=>K.vals j y v U (M.vals j y v U hv),λW N=>?_⟩;obtain⟨p1,p2⟩:=M.old W N;obtain⟨r1,r2⟩:=K.old W N;refine⟨λx O=>?_,λO=>r2 (p2 O)⟩;obtain⟨x1,a1,a2,a3,a4⟩:=p1 x O;obtain⟨x2,c1,c2,c3,c4⟩:=r1 x1 a1;exact⟨x2,c1,by rw[c2,a2],by rw[c3,a3],by rw[c4,a4]⟩
theorem vR{w:World}{m:Nat}{vs:List AV}: ∀{n:Nat} {G:Gh} {mem:aO},aJ G w mem->∃M,BJ G w mem m vs M (wR m vs n mem)
 |0,G,mem,hM=>⟨G,.refl hM⟩
 |b+1,G,mem,hM=>by
  simp only[wR];cases hc:(Nat.ble m b&&QI mem b&&Nat.beq (dC b (AV.refsAll vs++cV mem)) 0)with
  |false=>exact vR hM
  |true=>
   simp only[yh];simp only[yc]at hc;have W:=dA.1 hc.1.1;have U:=bZ.1 hc.2;rw[fL]at U;have J:=hM.drop (b0:=b) (by omega);have Y:BJ G w mem m vs (G.drop b) (mem.set b none):=by
    refine⟨J,rfl,rfl,λO g N=>Gh.drop_loc (by omega),λj y v hy Z=>Z.drop (λhr=>?_),λO N=>?_⟩
    ·have:=k9 (gS hy hr);omega
    ·have H:b≠O:=by omega
     exact⟨λx K=>⟨x,by rw[yp H];exact K,rfl,rfl,rfl⟩,λK=>by rw[yp H];exact K⟩
   obtain⟨M,V⟩:=vR (n:=b) J;exact⟨M,Y.trans V⟩
theorem Gp{w:World}{m:Nat}{vs:List AV}{G:Gh}{mem mem':aO}(hM:aJ G w mem)(h:GY m vs mem=some mem'): ∃K,BJ G w mem m vs K mem':=by
 obtain⟨G1,H⟩:=vR (m:=m) (vs:=vs) (n:=mem.length) hM;obtain⟨M,J⟩:=BG H.memr h;exact⟨M,H.trans J⟩
end Go.Ab
end
section
namespace Go.Ab
variable [cS]
theorem Gf: ∀{n i:Nat} {ids:List Nat} {j:Nat},A5 i n ids=true->j<n->ids[j]?=some (i+j)
 |0,i,ids,j,_,h=>by omega
 |n+1,i,[],j,h,_=>by simp[A5]at h
 |n+1,i,b::r,j,h,hj=>by
  simp only[A5,yc]at h;cases j with
  |zero=>simp[bZ.1 h.1]
  |succ j=>rw[yo1,Gf h.2 (by omega)];congr 1;omega
theorem Bb: ∀{old:List (Option Bool)} {mem:aO} {j:Nat},q8 old mem=true->
  (∀k,old[j]?=some (some k)->∃x,mem[j]?=some (some x)/\x.row.isCells=k/\(k=true->x.gen=0))/\(old[j]?=some none->mem[j]?=some none)
 | [],mem,j,h=>by simp
 |some k::r,[],j,h=>by simp[q8]at h
 |none::r,[],j,h=>by simp[q8]at h
 |some k::r,none::m,j,h=>by simp[q8]at h
 |none::r,some x::m,j,h=>by simp[q8]at h
 |none::r,none::m,0,h=>by simp
 |none::r,none::m,j+1,h=>by
  simp only[q8]at h;simpa using Bb (j:=j) h
 |some k::r,some x::m,0,h=>by
  simp only[q8,yc]at h;refine⟨λk' H=>?_,by simp⟩;simp at H;subst H;refine⟨x,rfl,?_,λH=>?_⟩
  ·cases k<;>simp_all
  ·subst H;simp at h;exact h.1.2
 |some k::r,some x::m,j+1,h=>by
  simp only[q8,yc]at h;simpa using Bb (j:=j) h.2
theorem Cy{j n:Nat}(h:n≤j):Nat.blt j n=false:=by
 cases H:Nat.blt j n with
 |false=>rfl
 |true=>have:=dA.1 (show Nat.ble (j+1) n=true from H);omega
theorem GH{keep:Bool}{G:Gh}{w:World}{mem:aO}{old:List (Option Bool)}{vs:List AV}{r:List AV×aO}(hM:aJ G w mem)(h:At keep old vs mem=some r):
  ∃f N Y,r.1=AV.renAll f vs/\Y.mine=G.mine/\Y.prot=G.prot/\N.prot=G.prot/\aJ Y w r.2/\F2 N Y f/\(∀(j:Nat) (y:AV) (v:Value),vs[j]?=some y->VR G w y v->VR N w y v)/\
   (∀(j:Nat) (k:Bool),old[j]?=some (some k)->∃y:bV,r.2[j]?=some (some y)/\y.row.isCells=k/\∀L,G.loc j 0=some L->Y.loc j 0=some L)/\
   (∀(j:Nat) (y:bV),old.length≤j\/y.row.isCells=true->r.2[j]?=some (some y)->y.gen=0)/\(∀j:Nat,old[j]?=some none->r.2[j]?=some none):=by
 unfold At at h;rw[bind_some]at h;obtain⟨H,Z,h⟩:=h;obtain⟨N,hG⟩:=Gp hM Z;have J:=hG.memr;generalize i9 H (d8 H (old.length+(AV.refsAll vs).length)) (sF 0 old.length++AV.refsAll vs) []=ids at h;simp only at h;rw[aA]at h;obtain⟨hg,h⟩:=h;simp only[yc]at hg;obtain⟨⟨g1,g2⟩,g3⟩:=hg;obtain rfl:=yb h;have V: ∀j,j<old.length->ids[j]?=some j:=λj O=>by rw[Gf g3 O,ye1]
 refine⟨gR old.length keep H ids,N,⟨yV old.length keep N H ids,N.prot,N.mine⟩,rfl,hG.mine,hG.prot,hG.prot,?_,I5 rfl,hG.vals,λj k O=>?_,λj y W hy=>?_,λj O=>?_⟩
 ·refine Ie J g2 rfl (λ_ _ _ h=>h) (λb x B _ K hf hB=>let ⟨_,_,_,_,_,_,_,h⟩:=J.blk K hB;h hf) (λb x B _ K hB=>let ⟨_,_,_,h,_⟩:=J.blk K hB;h) (λb x B i c B' _ K hB hi=>⟨(J.inn K hB hi).1,(J.inn K hB hi).2.2.2⟩) J.own J.lab J.away
 ·have M:=(yd.1 O).1;obtain⟨x,K,hk,h0⟩:=(Bb (j:=j) g1).1 k O;refine⟨{gen:=iC old.length keep x.row.isCells j x.gen,frz:=x.frz,row:=x.row.ren (gR old.length keep H ids)},?_,by simp only[dX];exact hk,λL hL=>?_⟩
  ·rw[fV,V j M];simp[K]
  ·rw[<-hG.loc j 0 M]at hL;show yV old.length keep N H ids j 0=some L;simp only[yV,V j M,ya,nL.2 ⟨x,K,rfl⟩,pC K];split
   ·rename_i hz;have hgen:x.gen=0:=by
     cases hc:x.row.isCells with
     |true=>exact h0 (by rw[<-hk];exact hc)
     |false=>
      rw[hc]at hz;simp only[iC,show Nat.blt j old.length=true from dA.2 M,yo2,ya4,yh]at hz;cases U:(keep&&Nat.beq x.gen 0)with
      |true=>simp only[yc]at U;exact bZ.1 U.2
      |false=>rw[U]at hz;cases hz
    rw[hgen];exact hL
   ·rw[if_pos (by simp[M])];exact hL
 ·obtain⟨b,x,_,_,rfl⟩:=eI hy;simp only[dX]at W;simp only[iC];rcases W with h|h
  ·rw[Cy h];rfl
  ·rw[h];simp
 ·have K:=(Bb (j:=j) g1).2 O;rw[fV,V j (yd.1 O).1];simp[K]
def Gh.lend(G:Gh)(S:Nat->Nat->Prop):Gh:={G with prot:=fun β B o=>G.prot β B o\/(β=true/\S B o)}
theorem dH.lend(G:Gh)(S:Nat->Nat->Prop)(hS: ∀B o,S B o->G.mine B):dH G (G.lend S):=⟨rfl,λ_ _ _ h=> .inl h,λ_ _ _ h=>h,λ_ B o h=>h.imp id (λh=>hS B o h.2)⟩
section
variable {P:Program}
theorem R3{mem:aO}{n:Nat}{l:LK}{v:AV}{r:Bool×PV×List Nat}(h:bM P mem n l v=some r)(H:(∃b g,v= .msw b g)\/(∃b g o m,v= .ms b g o m)):r.2.1.isSl=true:=by
 have hI: ∀{k:IntKind} {b:Nat} {w:aP} {r:Bool×PV×List Nat},bM.treeInts k b w=some r->r.2.1.isSl=true:=by
  intro k b w r h;unfold bM.treeInts at h;split at h
  ·rw[aA]at h;obtain⟨_,h⟩:=h;obtain rfl:=yb h;rfl
  ·rw[aA]at h;obtain⟨_,h⟩:=h;obtain⟨xs,_,rfl⟩:=yf.1 h;rfl
  ·simp at h
 have hS: ∀{f:LK->AV->Option (Bool×PV×List Nat)} {t:TypeId} {e b:Nat} {w:aP} {r:Bool×PV×List Nat},bM.treeSl P f t e b w=some r->r.2.1.isSl=true:=by
  intro f t e b w r h;unfold bM.treeSl at h;split at h
  ·rw[aA]at h;obtain⟨_,h⟩:=h;obtain rfl:=yb h;rfl
  ·rw[aA]at h;obtain⟨_,h⟩:=h;rw[bind_some]at h;obtain⟨_,_,h⟩:=h;obtain⟨xs,_,rfl⟩:=yf.1 h;rfl
  ·simp at h
 cases n with
 |zero=>simp[bM]at h
 |succ n=>
  rcases H with ⟨b,g,rfl⟩|⟨b,g,o,m,rfl⟩
  ·cases l<;>simp only[bM]at h<;>first
    |(simp at h;done)
    |(rw[bind_some]at h;obtain⟨x,_,h⟩:=h;exact hI h)
    |(rw[bind_some]at h;obtain⟨x,_,h⟩:=h;exact hS h)
  ·cases l<;>simp only[bM]at h<;>first
    |(simp at h;done)
    |(rw[bind_some]at h;obtain⟨x,_,h⟩:=h;rw[bind_some]at h;obtain⟨y,_,h⟩:=h;exact hI h)
    |(rw[bind_some]at h;obtain⟨x,_,h⟩:=h;rw[bind_some]at h;obtain⟨y,_,h⟩:=h;exact hS h)
theorem PG{mem:aO}{l:LK}{v:AV}{r:Bool×PV×List Nat}(h:lS P mem l v=some r)(H:(∃b g,v= .msw b g)\/(∃b g o m,v= .ms b g o m)):r.2.1.isSl=true:=by
 unfold lS at h;split at h
 ·split at h
  ·rw[aA]at h;obtain⟨_,h⟩:=h;obtain rfl:=yb h;rfl
  ·cases h
 ·exact R3 h H
theorem qE{G:Gh}{w:World}{mem:aO}{S:List Nat}{l:LK}{v:AV}{r:AV×List Nat}{cv:Value}(hM:aJ G w mem)(h:jQ P mem l v=some r)(N:VR G w v cv)(hS: ∀b∈r.2,b∈S):
  VR (G.lend (bA G w mem S)) w r.1 cv:=by
 have K: ∀{q:Bool×PV×List Nat},lS P mem l v=some q->r=(.imm true q.2.1,q.2.2)->((∃b g,v= .msw b g)\/(∃b g o m,v= .ms b g o m))->VR (G.lend (bA G w mem S)) w r.1 cv:=by
  intro q J hr hm;subst hr;obtain⟨O,_,_⟩:=GN hM J N;refine .imm true _ _ (O.mono (λB o H=>?_) (λ_ _ _=>rfl)) (PG J hm);rcases H with H|H
  ·left;cases M:q.1 with
   |true=>rw[M]at H;exact H
   |false=>rw[M]at H;exact hM.lab _ _ H
  ·exact .inr ⟨rfl,H.mono hS⟩
 unfold jQ at h;split at h
 ·obtain⟨q,J,hr⟩:=yf.1 h;exact K J hr.symm (.inl ⟨_,_,rfl⟩)
 ·obtain⟨q,J,hr⟩:=yf.1 h;exact K J hr.symm (.inr ⟨_,_,_,_,rfl⟩)
 ·obtain rfl:=yb h;exact N.mono (dH.lend G _ hM.inBoxes) (Ev.refl G w)
theorem x5{G:Gh}{w:World}{mem:aO}{S:List Nat}(hM:aJ G w mem): ∀{ls:List LK} {vs:List AV} {r:List AV×List Nat} {us:List Value},cG P mem ls vs=some r->kI G w vs us->(∀b∈r.2,b∈S)->
  kI (G.lend (bA G w mem S)) w r.1 us
 | [],[],r,us,h,H,_=>by
  simp[cG]at h;subst h;exact⟨H.1,λj y J=>by simp at J⟩
 | [],v::vs,r,us,h,_,_=>by simp[cG]at h
 |l::ls,[],r,us,h,_,_=>by simp[cG]at h
 |l::ls,v::vs,r,[],h,H,_=>by simp[kI]at H
 |l::ls,v::vs,r,u::us,h,H,hS=>by
  simp only[cG]at h;rw[bind_some]at h;obtain⟨a,O,h⟩:=h;rw[bind_some]at h;obtain⟨b,K,h⟩:=h;obtain rfl:=yb h;have N:=qE hM O (H.2 0 v rfl) (λb K=>hS b (yc2 _ K));have M:=x5 hM K (us:=us) ⟨by simpa using H.1,λj y J=>by simpa using H.2 (j+1) y (by simpa using J)⟩ (λb K=>hS b (ye2 _ K));refine⟨by simp[M.1],λj y J=>?_⟩;cases j with
  |zero=>simp at J;subst J;exact N
  |succ j=>simpa using M.2 j y (by simpa using J)
theorem Pi{G:Gh}{w:World}{mem:aO}{S:List Nat}{t:TypeId}{v:AV}{r:AV×List Nat}{cv:Value}(hM:aJ G w mem)(h:lend P mem t v=some r)(K:VR G w v cv)(hS: ∀b∈r.2,b∈S):
  VR (G.lend (bA G w mem S)) w r.1 cv:=by
 have H:=fun{a:AV} {u:Value} (h:VR G w a u)=>h.mono (dH.lend G _ (hM.inBoxes (ids:=S))) (Ev.refl G w);unfold lend at h;split at h
 ·rw[bind_some]at h;obtain⟨l,U,h⟩:=h;exact qE hM h K hS
 ·rw[bind_some]at h;obtain⟨l,U,h⟩:=h;exact qE hM h K hS
 ·rename_i cs;cases J:KF cs with
  |true=>
   rw[J]at h;simp only[yh]at h;rw[bind_some]at h;obtain⟨ls,N,h⟩:=h;obtain⟨q,O,rfl⟩:=yf.1 h;obtain⟨cvs,rfl,hc⟩:=K.agg_inv;have:=x5 (us:=cvs.toList) hM O ⟨by simpa using hc.1,λj y M=>by rw[fA];exact hc.2 j y M⟩ hS;exact .agg _ cvs (by simpa using this.1) (λj y M=>by rw[<-fA];exact this.2 j y M)
  |false=>
   rw[J]at h;simp only[yg]at h;obtain rfl:=yb h;exact H K
 ·obtain rfl:=yb h;exact H K
theorem Bx{G:Gh}{w:World}{mem:aO}{S:List Nat}(hM:aJ G w mem): ∀{ts:List TypeId} {vs:List AV} {r:List AV×List Nat} {us:List Value},iT P mem ts vs=some r->kI G w vs us->(∀b∈r.2,b∈S)->
  kI (G.lend (bA G w mem S)) w r.1 us
 | [],[],r,us,h,H,_=>by
  simp[iT]at h;subst h;exact⟨H.1,λj y J=>by simp at J⟩
 | [],v::vs,r,us,h,_,_=>by simp[iT]at h
 |l::ls,[],r,us,h,_,_=>by simp[iT]at h
 |l::ls,v::vs,r,[],h,H,_=>by simp[kI]at H
 |l::ls,v::vs,r,u::us,h,H,hS=>by
  simp only[iT]at h;rw[bind_some]at h;obtain⟨a,O,h⟩:=h;rw[bind_some]at h;obtain⟨b,K,h⟩:=h;obtain rfl:=yb h;have N:=Pi hM O (H.2 0 v rfl) (λb K=>hS b (yc2 _ K));have M:=Bx hM K (us:=us) ⟨by simpa using H.1,λj y J=>by simpa using H.2 (j+1) y (by simpa using J)⟩ (λb K=>hS b (ye2 _ K));refine⟨by simp[M.1],λj y J=>?_⟩;cases j with
  |zero=>simp at J;subst J;exact N
  |succ j=>simpa using M.2 j y (by simpa using J)
theorem Oa{G:Gh}{w:World}{mem:aO}{S:List Nat}(hM:aJ G w mem){keep:Bool}{ts:List TypeId}{vs:List AV}{r:List AV×List Nat}{us:List Value}(h:NQ P keep mem ts vs=some r)(H:kI G w vs us)(hS: ∀b∈r.2,b∈S):
  kI (G.lend (bA G w mem S)) w r.1 us:=by
 cases keep with
 |true=>
  obtain rfl:=yb h;exact⟨H.1,λj y J=>(H.2 j y J).mono (dH.lend G (bA G w mem S) hM.inBoxes) (Ev.refl G w)⟩
 |false=>exact Bx hM h H hS
structure V3 (G:Gh) (w:World) (mem:aO) (r:AV×aO) (G':Gh) (w':World) (cv:Value):Prop where
 v:VR G' w' r.1 cv
 ev:Ev G w w'
 mine:G'.mine=G.mine
 prot: ∀β B o,G.prot β B o->G'.prot β B o
 new: ∀β B o,G'.prot β B o->G.prot β B o\/G.mine B
 memR:aJ G' w' r.2
 gens: ∀(j:Nat) (y:bV),mem.length≤j\/y.row.isCells=true->r.2[j]?=some (some y)->y.gen=0
 kept: ∀(j:Nat) (x:bV),mem[j]?=some (some x)->∃y:bV,r.2[j]?=some (some y)/\y.row.isCells=x.row.isCells/\∀L,G.loc j 0=some L->G'.loc j 0=some L
 nones: ∀j:Nat,mem[j]?=some none->r.2[j]?=some none
def mI(P:Program)(C:cC):Prop:= ∀g args mem r,C g args mem=some r->∀G w vargs,aJ G w mem->(∀(j:Nat) (x:bV),mem[j]?=some (some x)->x.gen=0)->rZ G w args vargs->
 (callFunc g vargs).run P w= .ok (.enter g vargs) w/\Calls P g vargs w λe w'=> ∃G' cv,e= .returned cv/\V3 G w mem r G' w' cv
def oW(G:Gh)(mem:aO)(m:Nat)(B _o:Nat):Prop:= ∃(b:Nat) (x:bV) (L:Gi),m≤b/\mem[b]?=some (some x)/\G.loc b x.gen=some L/\L.blk=some B
theorem vE{G:Gh}{w:World}{mem:aO}{m:Nat}{v:AV}{cv:Value}(hM:aJ G w mem)(V:VR G w v cv):VR (G.frz (oW G mem m)) w (v.frz m mem) cv:=by
 have hg:dH G (G.frz (oW G mem m)):=dH.frz G _ (by rintro B o ⟨b,x,L,_,hx,W,hB⟩;exact hM.mine hx W hB);have H:=fun{a:AV} {u:Value} (h:VR G w a u)=>h.mono hg (Ev.refl G w);unfold AV.frz;split
 ·rename_i b g;cases hle:Nat.ble m b with
  |false=>simp only[yg];exact H V
  |true=>
   simp only[yh];split
   ·rename_i x hx;obtain⟨hm,rfl⟩:=box?_some hx;have O:=hM.box b x hm;split
    ·rename_i k xs K;cases V with
     |msw _ _ cap L B W hb hn hf=>
      obtain⟨o,a0,J,U,M⟩:=O.loc;have N:=W;rw[J]at N;obtain rfl:=yb N;simp only at hb;subst hb;have hr:=M.2.2.2.1;rw[K]at hr hn⊢
      refine .imm false _ _ (.ints k xs B a0 cap hn λi x' hx'=>?_) rfl;exact⟨hr i x' hx',.inr ⟨b,x,_,dA.1 hle,hm,J,rfl⟩⟩
     |mswNil _ _ L W hb hn=>
      obtain⟨o,a0,J,U,M⟩:=O.loc;rw[W]at J;obtain rfl:=yb J;rw[K]at hn;obtain rfl:=yu hn;exact .imm false _ _ (.intsNil k _) rfl
    ·rename_i β e xs K;cases V with
     |msw _ _ cap L B W hb hn hf=>
      obtain⟨o,a0,J,U,M⟩:=O.loc;have N:=W;rw[J]at N;obtain rfl:=yb N;simp only at hb;subst hb;have hr:=M.2.2.2.1;have he:=O.e;obtain rfl:=U (by rw[K];rfl);rw[K]at hr hn he⊢
      obtain⟨hlen,hcell⟩:=hr;have Z: ∀(i:Nat) (x:PV) (c:Nat) (y:PV),xs[i]?=some x->x.cells[c]?=some y->cl w B (i*e+c)=some ((cl w B (i*e+c)).getD undef)/\((cl w B (i*e+c)).getD undef).oneCell'=true/\PR w (G.prot β) y ((cl w B (i*e+c)).getD undef):=by
       intro i x c y h1 Y;obtain⟨v,V,hv1,hv2⟩:=hcell i x c y h1 Y;rw[V];exact⟨rfl,hv1,hv2⟩
      refine .imm β _ _ (.sl e xs B 0 cap (λi c=>(cl w B (i*e+c)).getD undef) he hn hlen (λi x' c y h1 Y=>?_) (λi x' c y h1 Y=>(Z i x' c y h1 Y).2.1) (λi x' c y h1 Y=>(Z i x' c y h1 Y).2.2.mono (λ_ _ h=> .inl h) (λ_ _ _=>rfl))) rfl;rw[ye1];exact⟨(Z i x' c y h1 Y).1,.inr ⟨b,x,_,dA.1 hle,hm,J,rfl⟩⟩
     |mswNil _ _ L W hb hn=>
      obtain⟨o,a0,J,U,M⟩:=O.loc;rw[W]at J;obtain rfl:=yb J;rw[K]at hn;obtain rfl:=yu hn;exact .imm β _ _ (.slNil e _) rfl
    ·exact H V
    ·exact H V
   ·exact H V
 ·exact H V
theorem lG(m:Nat)(mem:aO): ∀vs:List AV,AV.frzAll m mem vs=vs.map (·.frz m mem)
 | []=>rfl
 |v::vs=>by simp[AV.frzAll,lG m mem vs]
theorem Mg{G:Gh}{w:World}{mem:aO}{m:Nat}{v:AV}{cv:Value}(hM:aJ G w mem)(M:VR G w v cv):VR (G.frz (oW G mem m)) w (oV m mem v) cv:=by
 unfold oV;split
 ·rename_i vs;cases M with
  |tup _ cvs H h=>
   refine .tup _ cvs (by rw[lG];simpa using H) (λj y J=>?_);rw[lG,yh1]at J;obtain⟨x,K,rfl⟩:=yf.1 J;exact vE hM (h j x K)
 ·rename_i vs;cases M with
  |agg _ cvs H h=>
   refine .agg _ cvs (by rw[lG];simpa using H) (λj y J=>?_);rw[lG,yh1]at J;obtain⟨x,K,rfl⟩:=yf.1 J;exact vE hM (h j x K)
 ·exact vE hM M
theorem Jb{mem:aO}{m:Nat}{v:AV}(K:kC mem=false)(J:v.lent=false):(v.frz m mem).lent=false:=by
 unfold AV.frz;split
 ·rename_i b g;cases Nat.ble m b with
  |false=>exact J
  |true=>
   simp only[yh];split
   ·rename_i x M;obtain⟨hm,_⟩:=box?_some M;split
    ·rfl
    ·rename_i β e xs H;simp only[AV.lent];cases β with
     |false=>rfl
     |true=>have:=q5 hm (by rw[H];rfl);rw[K]at this;cases this
    ·rfl
    ·rfl
   ·rfl
 ·exact J
theorem sH: ∀{cs:List AV},AV.lentAny cs=false↔∀y∈cs,y.lent=false
 | []=>by simp[AV.lentAny]
 |c::cs=>by simp[AV.lentAny,sH (cs:=cs)]
theorem Ni{mem:aO}{m:Nat}{v:AV}(K:kC mem=false)(H:v.lent=false):(oV m mem v).lent=false:=by
 unfold oV;split
 ·rename_i vs;simp only[AV.lent]at H⊢
  rw[sH]at H⊢
  intro y J;rw[lG]at J;obtain⟨x,M,rfl⟩:=yl3.1 J;exact Jb K (H x M)
 ·rename_i vs;simp only[AV.lent]at H⊢
  rw[sH]at H⊢
  intro y J;rw[lG]at J;obtain⟨x,M,rfl⟩:=yl3.1 J;exact Jb K (H x M)
 ·exact Jb K H
end
end Go.Ab
end
