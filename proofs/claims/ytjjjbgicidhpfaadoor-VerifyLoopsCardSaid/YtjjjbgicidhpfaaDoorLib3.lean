/- The evaluator. -/
import Derived.Test.YtjjjbgicidhpfaaDoorLib2
set_option linter.unusedVariables false
set_option linter.unusedSectionVars false
set_option linter.unusedSimpArgs false
section
namespace Go.Ab
variable [b3]
section
variable {P:Program}
variable {G:Gh} {w:World} {mem:aK} {o:Oper} {a:Act} {out:cU}
theorem Jy{c x y r:AV}{I J K:Value}(h:FJ c x y=some r)(N:VR G w c I)(M:VR G w x J)(H:VR G w y K):
  ∃t,I= .bool t/\VR G w r (if t then J else K):=by
 unfold FJ at h;split at h
 ·rename_i t;obtain rfl:=N.lit_inv;refine⟨t,rfl,?_⟩;split at h
  ·obtain rfl:=ya h;obtain rfl:=M.lit_inv;obtain rfl:=H.lit_inv;cases t<;>exact .lit _ rfl
  ·cases t with
   |true=>simp only[yl]at h;obtain rfl:=ya h;exact M
   |false=>simp only[yj]at h;obtain rfl:=ya h;exact H
 ·simp at h
theorem AA{x:Operand}(h:iS x=true):x= .const (.slice none 0 0):=by
 unfold iS at h;split at h
 ·rfl
 ·cases h
theorem zG{t:TypeId}{p:PV}(h:oV P t=some p):(∃k,p= .ints k [])\/∃e,p= .sl e []/\1≤e:=by
 unfold oV at h;rw[bind_some]at h;obtain⟨et,_,h⟩:=h;split at h
 ·rename_i k _;exact .inl ⟨k,(ya h).symm⟩
 ·rw[bind_some]at h;obtain⟨e,_,h⟩:=h;rw[aA]at h;exact .inr ⟨e,(ya h.2).symm,cE.1 h.1⟩
theorem Da{boxed vars:Bool}{ρ:Operand->Option AV}{rs:Nat}{t:TypeId}{x:Operand}(hM:aI G w mem)(O:iS x=true->mem[rs]?=some none)(Y:MW G w ρ a)
  (J:execOp a.eval o=pure (Next.value (a.eval x))) (h:q7 P boxed vars ρ t rs x=some out):nO P G w mem o a out:=by
 unfold q7 at h;cases K:(iS x&&boxed&&!vars)with
 |true=>
  rw[K]at h;simp only[yl]at h;simp only[yb]at K;obtain rfl:=AA K.1.1;rw[bind_some]at h;obtain⟨p,M,h⟩:=h;obtain⟨row,H,rfl⟩:=yc.1 h;have hm:=O rfl;have U:rs<mem.length:=by
   rcases yd2 rs mem.length with h|h
   ·exact h
   ·rw[yb1 h]at hm;cases hm
  have hr:1≤row.e/\row.len=0/\row.isCells=false:=by
   rcases zG M with ⟨k,rfl⟩|⟨e,rfl,J⟩
   ·obtain rfl:=ya H;exact⟨ya1 _,rfl,rfl⟩
   ·obtain rfl:=ya H;exact⟨J,rfl,rfl⟩
  obtain⟨W,Z,hl,N⟩:=AB (b:=rs) (g':=0) (row':=row) hM U (λg _=>hM.unset rs g (λy V=>by rw[hm]at V;cases V)) hr.1 hr.2.1 hr.2.2;refine jK.opW ⟨W,w,.value (a.eval (.const (.slice none 0 0))),_,by rw[J];simp,.inl rfl,?_,Z,Ev.refl G w,by simpa[cU.apply,aM]using N⟩;exact .mswNil rs 0 _ hl rfl hr.2.1
 |false=>
  rw[K]at h;simp only[yj]at h;rw[bind_some]at h;obtain⟨v,hv,h⟩:=h;have I:=Y _ _ hv;split at h
  ·cases boxed with
   |true=>simp only[yl]at h;obtain rfl:=ya h;exact nO.plain hM J rfl rfl I
   |false=>
    simp only[yj]at h;obtain⟨p,M,rfl⟩:=yc.1 h;refine nO.plain hM J rfl rfl ?_;rw[I.lit_inv];rcases zG M with ⟨k,rfl⟩|⟨e,rfl,_⟩
    ·exact .imm _ _ _ (.intsNil k _) rfl
    ·exact .imm _ _ _ (.slNil e _) rfl
  ·obtain rfl:=ya h;exact nO.plain hM J rfl rfl I
theorem HI{ρ:Operand->Option AV}{t:TypeId}{x ix:Operand}(hM:aI G w mem)(hρ:MW G w ρ a)
  (he:execOp a.eval o=(do pure (Next.value (<-Instr.index t (a.eval x) (a.eval ix))))) (h:oL P ρ t x ix=some out):nO P G w mem o a out:=by
 unfold oL at h;rw[bind_some]at h;obtain⟨vx,hx,h⟩:=h;rw[bind_some]at h;obtain⟨vi,H,h⟩:=h;have O:=hρ _ _ hx;have K:=hρ _ _ H;split at h
 ·rename_i cs k i;split at h
  ·rename_i n e V;rw[bind_some]at h;obtain⟨ag,U,h⟩:=h;rw[bind_some]at h;obtain⟨s,hs,h⟩:=h;rw[aA]at h;obtain⟨hg,h⟩:=h;simp only[yb,yq,decide_eq_true_eq]at hg;obtain⟨⟨⟨J,W⟩,Y⟩,hn⟩:=hg;obtain rfl:=bI.1 W;obtain⟨v,hv,rfl⟩:=yc.1 h;obtain⟨cvs,Z,N⟩:=O.agg_inv;have hel:=N.2 _ _ hv;refine nO.still hM he rfl rfl (cv:=cvs.getD i.toNat undef) ?_ hel;rw[Z,K.lit_inv];have M:i.toNat<cvs.size:=by
    rw[<-N.1];exact(yd.1 hv).1
   have:=HZ (P:=P) U hs (cs:=cvs) (o:=i.toNat) w (.inr M);rw[J]at this;simp only[yl2,if_false]at this;simp only[Instr.index,asIntOf,Sem.run_bind,Sem.run_pure,Result.andThen_ok,run_underlying V,Y,hn,and_self,if_true,dZ hs,yy2,this]
  ·cases h
 ·rename_i s k i;split at h
  ·rename_i V;obtain⟨b,I,rfl⟩:=yc.1 h;refine nO.still hM he rfl rfl (cv:= .int .u8 b) ?_ (.lit _ rfl);rw[O.lit_inv,K.lit_inv];obtain⟨Y,M,I⟩:=Bk I;have hs:s[i.toNat]?.map (λc:UInt8=>(c.toNat:Int))=some b:=by
    unfold eO at I;rw[yc1]at I;rw[<-I,yh1];by_cases H:i.toNat<s.size
    ·rw[getElem?_pos s _ H,getElem?_pos s.data _ H];rfl
    ·rw[getElem?_neg s _ H,getElem?_neg s.data _ H]
   obtain⟨c,hc,rfl⟩:=yc.1 hs;simp only[Instr.index,asIntOf,Sem.run_bind,Sem.run_pure,Result.andThen_ok,run_underlying V,Y,if_true,hc]
  ·cases h
 ·cases h
theorem LM{C:bM}{boxed raw vars:Bool}{ρ:Operand->Option AV}{rs:Nat}(hM:aI G w mem)(Y:dJ o.op=true->mem[rs]?=some none)(M:MW G w ρ a)
  (hcall: ∀{raw keep:Bool} {g:FuncId} {ts:List TypeId} {fi args ca:List AV} {out:cU} {fv av cv:Array Value},vQ P C raw keep g ts fi args ca mem=some out->nH G w fi fv->nH G w args av->nH G w ca cv->Kg P G w mem g (fv++av++cv) out)
  (h:Lg P C boxed raw vars o ρ mem rs=some out):nO P G w mem o a out:=by
 unfold Lg CH zV IB zI e5 sV Jp H1 MR Dc AW u9 kA Aj sT oK AG at h;split at h
 ·rename_i x H;exact Da hM (λhn=>Y (by rw[H];exact hn)) M (by simp only[execOp,H]) h
 ·rename_i x H;exact Da hM (λhn=>Y (by rw[H];exact hn)) M (by simp only[execOp,H]) h
 ·rename_i c x y H;rw[bind_some]at h;obtain⟨vc,hc,h⟩:=h;rw[bind_some]at h;obtain⟨vx,U,h⟩:=h;rw[bind_some]at h;obtain⟨vy,hy,h⟩:=h;obtain⟨r,hr,rfl⟩:=yc.1 h;obtain⟨t,ht,O⟩:=Jy hr (M _ _ hc) (M _ _ U) (M _ _ hy);refine jK.opW ⟨G,w,_,_,?_,.inl rfl,O,cJ.refl G,Ev.refl G w,by simpa[cU.apply,aM]using hM⟩;simp only[execOp,H,ht,asBool];cases t<;>simp
 ·rename_i t H;rw[bind_some]at h;obtain⟨z,hz,h⟩:=h;rw[aA]at h;obtain⟨N,h⟩:=h;simp only[yb]at N;obtain rfl:=ya h;exact(KQ hM H (Y (by rw[H];rfl)) hz (cE.1 N.1) N.2).opW
 ·rename_i t x H;rw[bind_some]at h;obtain⟨v,O,h⟩:=h;rw[bind_some]at h;obtain⟨n,hn,h⟩:=h;rw[aA]at h;obtain⟨N,h⟩:=h;simp only[yb]at N;obtain rfl:=ya h;exact(Nb hM H (Y (by rw[H];rfl)) (M _ _ O) (bI.1 N.1.1) (cE.1 N.1.2) N.2).opW
 ·rename_i t parts H;rw[bind_some]at h;obtain⟨ps,hps,h⟩:=h;obtain⟨v,O,rfl⟩:=yc.1 h;obtain⟨cv,J,I⟩:=HE O (wR M hps);exact nO.still hM (by simp only[execOp,H]<;>rfl) rfl rfl J I
 ·rename_i t len parts H;rw[bind_some]at h;obtain⟨et,het,h⟩:=h;rw[bind_some]at h;obtain⟨z,hz,h⟩:=h;rw[bind_some]at h;obtain⟨s,hs,h⟩:=h;rw[bind_some]at h;obtain⟨ps,hps,h⟩:=h;rw[aA]at h;obtain⟨N,h⟩:=h;rw[bind_some]at h;obtain⟨wv,hwv,h⟩:=h;rw[aA]at h;obtain⟨hwe,h⟩:=h;obtain⟨ov,Z,rfl⟩:=yc.1 h;exact nO.value (by simp only[execOp,H]<;>rfl) (Ch hM (Y (by rw[H];rfl)) het hz hs N hwv hwe Z (wR M hps))
 ·rename_i t x H;rw[bind_some]at h;obtain⟨v,O,h⟩:=h;obtain⟨r,rd,rfl,cv,J,I⟩:=B7 hM h (M _ _ O);exact nO.still hM (by simp only[execOp,H]<;>rfl) rfl rfl J I
 ·rename_i t x y H;rw[bind_some]at h;obtain⟨vx,U,h⟩:=h;rw[bind_some]at h;obtain⟨vy,hy,h⟩:=h;obtain⟨Z,G',w',J,N,hev,hM'⟩:=GR hM h (M _ _ U) (M _ _ hy);refine jK.opW ⟨G',w',.skip,undef,?_,.inr ⟨rfl,rfl⟩,by rw[Z];exact .lit _ rfl,N,hev,hM'⟩;simp only[execOp,H,Sem.run_bind,J,Result.andThen_ok,Sem.run_pure]
 ·rename_i x H;rw[bind_some]at h;obtain⟨v,O,h⟩:=h;have I:=M _ _ O;split at h
  ·obtain rfl:=ya h;refine nO.plain hM (cv:=a.eval x) ?_ rfl rfl I;simp only[execOp,H];generalize a.eval x=cv at I;cases I;simp only
  ·obtain rfl:=ya h;refine nO.plain hM (cv:=a.eval x) ?_ rfl rfl I;simp only[execOp,H];generalize a.eval x=cv at I;cases I;simp only
  ·obtain rfl:=ya h;refine nO.plain hM (cv:=a.eval x) ?_ rfl rfl I;simp only[execOp,H];generalize a.eval x=cv at I;cases I;simp only
  ·simp at h
 ·rename_i op t x y _ H;rw[bind_some]at h;obtain⟨vx,U,h⟩:=h;rw[bind_some]at h;obtain⟨vy,hy,h⟩:=h;obtain⟨r,hr,rfl⟩:=yc.1 h;obtain⟨cv,h1,h2,I⟩:=Nw (x:=x) (y:=y) hr (M _ _ U) (M _ _ hy);refine nO.still hM (s:=do eqGuard op t x y (a.eval x) (a.eval y);binOp op t (a.eval x) (a.eval y)) (by simp only[execOp,H]) rfl rfl ?_ I;simp only[Sem.run_bind,h1,Result.andThen_ok,h2]
 ·rename_i op _ x H;rw[bind_some]at h;obtain⟨vx,U,h⟩:=h;split at h
  ·obtain⟨r,hr,rfl⟩:=yc.1 h;have hvx:=(M _ _ U).lit_inv;exact nO.still hM (by simp only[execOp,H]<;>rfl) rfl rfl (by rw[hvx];exact LV hr) (.lit _ (Hw hr))
  ·simp at h
 ·rename_i src dst x H;rw[bind_some]at h;obtain⟨vx,U,h⟩:=h;exact nO.value (by simp only[execOp,H]<;>rfl) (Ef hM h (M _ _ U))
 ·rename_i fn first cap H
  rw[bind_some]at h;obtain⟨fi,hfi,h⟩:=h;obtain⟨ca,hca,rfl⟩:=yc.1 h;have h1:=zA M hfi;have h2:=zA M hca;exact nO.still hM (by simp only[execOp,H]<;>rfl) rfl rfl (cv:= .func fn (first.map a.eval) (cap.map a.eval)) (by simp[Instr.makeFunc]) (.fn fn fi ca _ _ h1.1 h2.1 h1.2 h2.2)
 ·rename_i t l c H;rw[bind_some]at h;obtain⟨et,het,h⟩:=h;rw[bind_some]at h;obtain⟨z,hz,h⟩:=h;rw[bind_some]at h;obtain⟨vl,hl,h⟩:=h;rw[bind_some]at h;obtain⟨vc,hc,h⟩:=h;split at h
  ·rename_i k1 n k2 n';rw[aA]at h;obtain⟨N,h⟩:=h;simp only[yb,beq_iff_eq,decide_eq_true_eq]at N;obtain⟨⟨hnn,hn0⟩,hml⟩:=N;subst hnn;have hml:=cE.1 hml;obtain⟨i,zv,hi,hzv,Z⟩:=jE hz;have hzr:VR G w z zv:=kD Z;have el:=(M _ _ hl).lit_inv;have ec:=(M _ _ hc).lit_inv;obtain⟨m,rfl⟩: ∃m:Nat,n=(m:Int):=⟨n.toNat,by omega⟩
   rw[yj3]at hml h;refine nO.value (s:=Instr.makeSlice t (.int k1 (m:Int)) (.int k2 (m:Int))) (by simp only[execOp,H,el,ec]) ?_;have hr:=Y (by rw[H];rfl);split at h
   ·rename_i k hk;rw[bind_some]at h;obtain⟨e,he,h⟩:=h;rw[bind_some]at h;obtain⟨bytes,V,h⟩:=h;rw[bind_some]at h;obtain⟨zs,hzs,h⟩:=h;rw[aA]at h;obtain⟨N,h⟩:=h;simp only[yb]at N;obtain rfl:=bI.1 N.1;have hb:=cE.1 N.2;obtain⟨O,hsz⟩:=Km (n:=m) hzs hzr;exact rO hM hr (lZ het) hi hzv (by unfold gW at he;rw[hi]at he;simpa using he) (ya1 _) (by unfold iQ at V;rw[hi]at V;simp at V;omega) hml hsz O (by simp[aL.len]) rfl h
   ·rw[bind_some]at h;obtain⟨q,hq,h⟩:=h;rw[bind_some]at h;obtain⟨e,he,h⟩:=h;rw[bind_some]at h;obtain⟨bytes,V,h⟩:=h;rw[aA]at h;obtain⟨N,h⟩:=h;simp only[yb]at N;obtain⟨⟨⟨g1,g2⟩,g3⟩,g4⟩:=N;have g1:=cE.1 g1;have g2:=cE.1 g2;have g3:=bI.1 g3;have g4:=mA g4;obtain⟨O,hsz⟩:=Gg (n:=m) hM hq hzr g3 g1 g4;exact rO hM hr (lZ het) hi hzv (by unfold gW at he;rw[hi]at he;simpa using he) g1 (by unfold iQ at V;rw[hi]at V;simp at V;omega) hml hsz O (by simp[aL.len]) rfl h
  ·simp at h
 ·rename_i t x lo hi mx H;rw[bind_some]at h;obtain⟨vx,U,h⟩:=h;rw[bind_some]at h;obtain⟨vl,hl,h⟩:=h;rw[bind_some]at h;obtain⟨vh,hh,h⟩:=h;rw[bind_some]at h;obtain⟨vm,hm,h⟩:=h;obtain⟨h1,h2,cv,J,I⟩:=GL hM h (M _ _ U) (lK M hl) (lK M hh) (lK M hm);exact nO.still hM (by simp only[execOp,H]<;>rfl) h1 h2 J I
 ·rename_i s x f H;rw[bind_some]at h;obtain⟨vx,U,h⟩:=h;rw[bind_some]at h;obtain⟨q,hq,h⟩:=h;have I:=M _ _ U;split at h
  ·rename_i b g i c;obtain rfl:=ya h;generalize W:a.eval x=cv at I;cases I with
   |ptr _ _ _ _ L B hl hb=>
    refine nO.still hM (by simp only[execOp,H]<;>rfl) rfl rfl (by rw[W];exact B0 hq B _ w) ?_;rw[show∀p q r s:Nat,p+(q+r)+s=p+(q+(r+s))from λp q r s=>by omega];exact .ptr b g i (c+q.1) L B hl hb
  ·rename_i β p c;obtain rfl:=ya h;generalize W:a.eval x=cv at I;cases I with
   |el _ _ _ B o cv hh hr=>
    refine nO.still hM (by simp only[execOp,H]<;>rfl) rfl rfl (by rw[W];exact B0 hq B _ w) ?_;rw[ys1];exact .el β p (c+q.1) B o cv hh hr
  ·simp at h
 ·rename_i s x f H;rw[bind_some]at h;obtain⟨vx,U,h⟩:=h;rw[bind_some]at h;obtain⟨q,hq,h⟩:=h;split at h
  ·rename_i cs;rw[bind_some]at h;obtain⟨ag,hag,h⟩:=h;have key: ∃v,(bif ag then guardB (Nat.ble (q.1+q.2.1) cs.length) (some (AV.agg ((cs.drop q.1).take q.2.1)))else cs[q.1]?)=some v/\out={v}:=by
    cases ag with
    |true=>
     simp only[yl]at h⊢
     rw[aA]at h;obtain⟨N,h⟩:=h;exact⟨_,by rw[N];rfl,(ya h).symm⟩
    |false=>
     simp only[yj]at h⊢
     obtain⟨v,O,rfl⟩:=yc.1 h;exact⟨v,O,rfl⟩
   obtain⟨v,O,rfl⟩:=key;obtain⟨cv,J,I⟩:=HH hq hag (M _ _ U) O;exact nO.still hM (by simp only[execOp,H]<;>rfl) rfl rfl J I
  ·simp at h
 ·rename_i t x ix H;rw[bind_some]at h;obtain⟨vx,U,h⟩:=h;rw[bind_some]at h;obtain⟨vi,hi,h⟩:=h;split at h
  ·rename_i k i;have ei:=(M _ _ hi).lit_inv;obtain⟨v,rd,rfl,cv,J,I⟩:=HD (k:=k) hM h (M _ _ U);exact nO.still hM (by simp only[execOp,H]<;>rfl) rfl rfl (by rw[ei];exact J) I
  ·simp at h
 ·rename_i t x ix H;exact HI hM M (by simp only[execOp,H]<;>rfl) h
 ·rename_i t ix H;rw[bind_some]at h;obtain⟨vt,ht,h⟩:=h;split at h
  ·rename_i vs;obtain⟨v,O,rfl⟩:=yc.1 h;have I:=M _ _ ht;generalize W:a.eval t=cv at I;cases I with
   |tup _ cvs hlen hh=>
    have hix:ix<cvs.size:=by rw[<-hlen];exact(yd.1 O).1
    have:=hh ix v O;rw[yk,yo1 hix]at this;refine nO.still hM (by simp only[execOp,H]<;>rfl) rfl rfl (cv:=cvs[ix]) ?_ this;rw[W];simp[Instr.extract,yo1 hix]
  ·simp at h
 ·rename_i c H;rw[bind_some]at h;obtain⟨args,hargs,h⟩:=h;have hav:=zA M hargs;split at h
  ·rename_i b hc;obtain⟨s,hs,hh⟩:=E5 (ty:=o.type) (consts:=c.args.map fun| .const _=>true|_=>false) hM (λhb=>Y (by rw[H];subst hb;unfold dJ;obtain⟨cc,_,_⟩:=c;simp only at hc;subst hc;rfl)) h hav;refine nO.value (s:=s) ?_ hh;rw[<-hs];simp only[execOp,H,resolve,hc,invoke];rfl
  ·rename_i f hc;rw[bind_some]at h;obtain⟨fv,hf,h⟩:=h;split at h
   ·rename_i g fi ca;have I:=M _ _ hf;generalize W:a.eval f=cv at I;cases I with
    |fn _ _ _ fvs cvs h1 h2 hff hcc=>
     obtain⟨hen,hcl⟩:=hcall h ⟨h1,hff⟩ hav ⟨h2,hcc⟩;intro K Q hK;unfold Oper.wp;have U:(execOp a.eval o).run P w= .ok (.enter g (fvs++c.args.map a.eval++cvs)) w:=by
      simp only[execOp,H,resolve,hc,Deferred.ofValue,W,Sem.run_bind,Sem.run_pure,Result.andThen_ok,invoke];exact hen
     rw[U];refine Calls.mono hcl λe w' he=>?_;obtain⟨G',cv,rfl,O,N,hev,hM'⟩:=he;exact hK G' w' cv O N hev hM'
   ·simp at h
  ·simp at h
 ·simp at h
end
end Go.Ab
end
section
namespace Go.Ab
variable [b3]
theorem dA{i c:Nat}: ∀{hs:List (Nat×Nat×AV)},i6 c hs=none->aH i c hs=none
 | [],_=>rfl
 |(M,J,v)::r,h=>by
  simp only[i6]at h;cases H:Nat.beq c J with
  |true=>rw[H]at h;cases h
  |false=>
   rw[H]at h;simp only[yj]at h;have I: ¬(M=i/\J=c):=λK=>by rw[bI.2 K.2.symm]at H;cases H
   simp only[aH,if_neg I];exact dA h
theorem v9{i c:Nat}{v:AV}: ∀{hs:List (Nat×Nat×AV)},i6 c hs=some (i,v)->aH i c hs=some v
 | [],h=>by cases h
 |(M,J,u)::r,h=>by
  simp only[i6]at h;cases H:Nat.beq c J with
  |true=>
   rw[H]at h;simp only[yl,Option.some.injEq,Prod.mk.injEq]at h;obtain⟨rfl,rfl⟩:=h;simp[aH,bI.1 H]
  |false=>
   rw[H]at h;simp only[yj]at h;have I: ¬(M=i/\J=c):=λK=>by rw[bI.2 K.2.symm]at H;cases H
   simp only[aH,if_neg I];exact v9 h
theorem JJ{y:PV}{row:aX}(h:cH y=some row):1≤row.e/\row.isCells=false/\row.isOwn=false:=by
 cases y with
 |ints k H=>obtain rfl:=ya h;exact⟨ya1 _,rfl,rfl⟩
 |sl e H=>simp only[cH]at h;rw[aA]at h;obtain⟨I,h⟩:=h;obtain rfl:=ya h;exact⟨cE.1 I,rfl,rfl⟩
 |lit u=>cases h
 |agg cs=>cases h
theorem En.row{G:Gh}{w:World}{B a:Nat}{r:aX}(h:En G w B a r):fN G w B a r:=by
 cases r with
 |ints k xs=>exact h
 |pvs β e xs=>exact h
 |cells e cs=>cases h
 |own e xs hs=>cases h
theorem IT{G:Gh}{w:World}{B a:Nat}{e:Nat}{xs:List PV}{hs:List (Nat×Nat×AV)}(h:fN G w B a (.own e xs hs)){i c:Nat}{p y:PV}(I:xs[i]?=some p)(H:p.cells[c]?=some y):
  ∃v,cl w B (i*e+c)=some v/\v.oneCell'=true/\HR G w (aH i c hs) y v:=h.2.2 i p c y I H
theorem Em{m n:aK}{b:Nat}{x:bG}(h:(m++n)[b]?=some (some x)):(b<m.length/\m[b]?=some (some x))\/(m.length≤b/\n[b-m.length]?=some (some x)):=by
 by_cases H:b<m.length
 ·rw[yn H]at h;exact .inl ⟨H,h⟩
 ·rw[yu (by omega)]at h;exact .inr ⟨by omega,h⟩
def O7:Value->Option Nat
 | .slice (some a) _ _=>some a.block
 |_=>none
def O2:Value->Nat
 | .slice (some a) _ _=>a.off
 |_=>0
def Nh(v:Value)(row:aX):BI:=⟨O7 v,row.e,row.len,O2 v⟩
theorem Kp{G:Gh}{w:World}{mem:aK}{b:Nat}{Z:bG}{B e i c:Nat}{xs:List PV}{hs:List (Nat×Nat×AV)}{p y:PV}{row:aX}(hM:aI G w mem)(hx:mem[b]?=some (some Z))(hrow:Z.row= .own e xs hs)(hB:d5 G b Z B)
  (hp:xs[i]?=some p) (hy:p.cells[c]?=some y) (hh:aH i c hs=none) (hl:cH y=some row):
  ∃G' v,G'=G.put mem.length 0 (Nh v row)/\cl w B (i*e+c)=some v/\cJ G G'/\VR G' w (.msw mem.length 0) v/\
   aI G' w (mem.set b (some {Z with row:= .own e xs ((i,c,.msw mem.length 0)::hs)})++ [some {gen:=0,frz:=false,row}]):=by
 obtain⟨ax,hl1,hax,hmi,hlt,hfr,hr,hpr⟩:=hM.blk hx hB;rw[hrow]at hr hl1 hax;obtain⟨v,hv,hv1,hor⟩:=IT hr hp hy;rw[hh]at hor;obtain⟨g1,g2,g3⟩:=JJ hl;have hnb: ∀g,G.loc mem.length g=none:=λg=>hM.unset _ g (λx hx=>by rw[yb1 (ya1 _)]at hx;cases hx);have W:b<mem.length:=(yd.1 hx).1;obtain⟨L,hL⟩: ∃L,Nh v row=L:=⟨_,rfl⟩
 have hg:cJ G (G.put mem.length 0 L):=cJ.put (.inl (hnb 0));have hev:=Ev.refl G w
 -- what the header says
 have key:VR (G.put mem.length 0 L) w (.msw mem.length 0) v/\L.e=row.e/\L.n=row.len/\(row.isInts=false->L.off=0)/\(L.blk=none->row.len=0)/\
   (∀B',L.blk=some B'->cA w B Z.row i c B'/\G.mine B'/\B'<w.heap.size/\fL w B'/\En G w B' L.off row/\∀β o,¬G.prot β B' o):=by
  rcases hor with ⟨u,rfl,_⟩|⟨row',hrow',hor⟩
  ·cases hl
  ·rw[hl]at hrow';obtain rfl:=ya hrow';rcases hor with ⟨rfl,h0⟩|⟨B',a',cap,rfl,ka,k1,k2,k3,k4,k5,k6,k7⟩
   ·subst hL;exact⟨.mswNil _ _ _ (Gh.put_self ..) rfl h0,rfl,rfl,λ_=>rfl,λ_=>h0,λB' h=>(nomatch h)⟩
   ·subst hL;refine⟨.msw _ _ cap _ B' (Gh.put_self ..) rfl k1 k2,rfl,rfl,ka,λh=>(nomatch h),λB2 h=>?_⟩;obtain rfl:B'=B2:=ya h;refine⟨?_,k3,k4,k5,k6,k7⟩;rw[hrow];exact⟨⟨p,y,row,hp,hy,hl⟩,hh,a',row.len,cap,hv⟩
 obtain⟨hvr,hLe,hLn,hLo,hLz,hLB⟩:=key
 -- the new memory
 have O: ∀{H:Nat} {z:bG},(mem.set b (some {Z with row:= .own e xs ((i,c,.msw mem.length 0)::hs)})++ [some {gen:=0,frz:=false,row}])[H]?=some (some z)->
   (H=b/\z={Z with row:= .own e xs ((i,c,.msw mem.length 0)::hs)})\/(H≠b/\H<mem.length/\mem[H]?=some (some z))\/(H=mem.length/\z={gen:=0,frz:=false,row}):=by
  intro H z h;rcases Em h with ⟨Y,J⟩|⟨Y,J⟩
  ·rw[yz2]at Y;by_cases e:H=b
   ·subst e;rw[yw W]at J;exact .inl ⟨rfl,by simpa using J.symm⟩
   ·rw[yp (λx=>e x.symm)]at J;exact .inr (.inl ⟨e,Y,J⟩)
  ·rw[yz2]at Y J;have h0:H-mem.length=0:=by
    have:=(yd.1 J).1;simp at this;omega
   rw[h0]at J;exact .inr (.inr ⟨by omega,by simpa using J.symm⟩)
 have M: ∀{H g:Nat},H<mem.length->(G.put mem.length 0 L).loc H g=G.loc H g:=λh=>Gh.put_ne _ _ (λx=>by omega);have I: ∀{H:Nat} {z z':bG} {C:Nat},H<mem.length->z.gen=z'.gen->d5 (G.put mem.length 0 L) H z C->d5 G H z' C:=by
  rintro H z z' C Y J ⟨L',l',k'⟩
  rw[M Y,J]at l';exact⟨L',l',k'⟩
 have N: ∀{z:bG} {C:Nat},z.gen=0->d5 (G.put mem.length 0 L) mem.length z C->L.blk=some C:=by
  rintro z C h0 ⟨L',l',k'⟩
  rw[h0,Gh.put_self]at l';obtain rfl:=ya l';exact k'
 have hinn: ∀{U V B' C:Nat},cA w C (aX.own e xs ((i,c,.msw mem.length 0)::hs)) U V B'->cA w C Z.row U V B'/\¬(U=i/\V=c):=by
  rintro U V B' C ⟨Y,J,h3⟩
  simp only[aH]at J;split at J
  ·cases J
  ·rename_i hn;rw[hrow];exact⟨⟨Y,J,h3⟩,λhh=>hn ⟨hh.1.symm,hh.2.symm⟩⟩
 have hrowmono: ∀{C a:Nat} {r:aX} {H:Nat} {z:bG},mem[H]?=some (some z)->z.row=r->d5 G H z C->fN G w C a r->fN (G.put mem.length 0 L) w C a r:=by
  intro C a r H z hz hzr hC h;exact h.mono hg hev (λ_ _=>rfl) λi c B' hi=>⟨.of rfl,(hM.inn hz hC (by rw[hzr];exact hi)).2.2.2⟩
 refine⟨_,v,by rw[hL],hv,hg,hvr,⟨λH z h=>?_,λH g h=>?_,λH z g h hlt'=>?_,λb1 b2 z1 z2 L1 L2 C Y J l1 l2 k1 k2=>?_,λb1 b2 z1 z2 C U V B' Y k1 hi J k2=>?_,λb1 b2 z1 z2 C D U V i2 c2 B' Y k1 hi J k2 hi2=>?_,hM.own,hM.lab,hM.away,hM.glob.mono (hg.prot true) (hev.prot true)⟩⟩
 ·rcases O h with ⟨rfl,rfl⟩|⟨hn,hl',hz⟩|⟨rfl,rfl⟩
  ·have hb:=hM.box _ _ hx;refine⟨by have:=hb.e;rw[hrow]at this;exact this,some B,ax,by rw[M W];exact hl1,hax,hmi,hlt,hfr,?_,hpr⟩;refine⟨λh hh=>?_,hr.2.1,λU x' V y' Y J=>?_⟩
   ·rcases yl1.1 hh with rfl|hh
    ·exact(yd.1 hp).1
    ·exact hr.1 h hh
   ·obtain⟨v',hv',hv1',hp'⟩:=hr.2.2 U x' V y' Y J;refine⟨v',hv',hv1',?_⟩;by_cases hcc:i=U/\c=V
    ·obtain⟨rfl,rfl⟩:=hcc;rw[hv]at hv';obtain rfl:=ya hv';simp only[aH,and_self,if_true,HR];exact hvr
    ·simp only[aH,if_neg hcc];cases ho:aH U V hs with
     |some a=>rw[ho]at hp';exact VR.mono hg hev hp'
     |none=>
      rw[ho]at hp';refine OR.mono hg hev hp' λB' a' n cap hrow2 hvv=>⟨.of rfl,?_⟩
      obtain⟨row2,hrow2⟩:=hrow2;exact(hM.inn hx hB (i:=U) (c:=V) (by rw[hrow];exact⟨⟨x',y',row2,Y,J,hrow2⟩,ho,a',n,cap,by rw[hv',hvv]⟩)).2.2.2
  ·have hb:=hM.box H z hz;obtain⟨o,a0,hlo,ha0,hm⟩:=hb.loc;refine⟨hb.e,o,a0,by rw[M hl'];exact hlo,ha0,?_⟩;cases o with
   |none=>exact hm
   |some C=>
    obtain⟨m1,m2,m3,m4,m5⟩:=hm;exact⟨m1,m2,m3,hrowmono hz rfl ⟨_,hlo,rfl⟩ m4,m5⟩
  ·refine⟨g1,L.blk,L.off,by rw[Gh.put_self,<-hLe,<-hLn],hLo,?_⟩;cases hLb:L.blk with
   |none=>exact⟨hLz hLb,g2⟩
   |some B'=>
    obtain⟨_,m1,m2,m3,m4,m5⟩:=hLB B' hLb;exact⟨m1,m2,m3,(m4.mono hg hev (λ_ _=>rfl)).row,λ_=>m5⟩
 ·have hn:H≠mem.length:=by
   rintro rfl
   exact h {gen:=0,frz:=false,row} (by rw[yu (by simp)];simp)
  rw[Gh.put_ne _ _ (λx=>hn x.1)];refine hM.unset H g λx hx'=>?_;have hbl':=(yd.1 hx').1;by_cases e:H=b
  ·subst e;exact h _ (by rw[yn (by simpa using hbl'),yw hbl'])
  ·exact h x (by rw[yn (by simpa using hbl'),yp (λx=>e x.symm)];exact hx')
 ·rcases O h with ⟨rfl,rfl⟩|⟨hn,hl',hz⟩|⟨rfl,rfl⟩
  ·rw[M W];exact hM.gens _ _ g hx hlt'
  ·rw[M hl'];exact hM.gens _ _ g hz hlt'
  ·rw[Gh.put_ne _ _ (λx=>by simp only at hlt';omega)];exact hnb g
 ·have hN: ∀{H:Nat} {z:bG},mem[H]?=some (some z)->d5 G H z C->L.blk=some C->False:=λhz hC hLC=>hM.inA b _ Z _ B i c C hx hB (hLB C hLC).1 hz hC;rcases O Y with ⟨rfl,rfl⟩|⟨hn1,K,hz1⟩|⟨rfl,rfl⟩<;>rcases O J with ⟨rfl,rfl⟩|⟨hn2,hl2',hz2⟩|⟨rfl,rfl⟩
  ·rfl
  ·rw[M W]at l1;rw[M hl2']at l2;exact hM.apart _ _ Z z2 L1 L2 C hx hz2 l1 l2 k1 k2
  ·exact(hN hx (I (z':=Z) W rfl ⟨L1,l1,k1⟩) (N rfl ⟨L2,l2,k2⟩)).elim
  ·rw[M K]at l1;rw[M W]at l2;exact hM.apart _ _ z1 Z L1 L2 C hz1 hx l1 l2 k1 k2
  ·rw[M K]at l1;rw[M hl2']at l2;exact hM.apart _ _ z1 z2 L1 L2 C hz1 hz2 l1 l2 k1 k2
  ·exact(hN hz1 (I (z':=z1) K rfl ⟨L1,l1,k1⟩) (N rfl ⟨L2,l2,k2⟩)).elim
  ·exact(hN hx (I (z':=Z) W rfl ⟨L2,l2,k2⟩) (N rfl ⟨L1,l1,k1⟩)).elim
  ·exact(hN hz2 (I (z':=z2) hl2' rfl ⟨L2,l2,k2⟩) (N rfl ⟨L1,l1,k1⟩)).elim
  ·rfl
 ·have hb1: ∃z0 C0,mem[b1]?=some (some z0)/\d5 G b1 z0 C/\cA w C z0.row U V B'/\(b1=b->¬(U=i/\V=c))/\C0=C:=by
   rcases O Y with ⟨rfl,rfl⟩|⟨hn1,K,hz1⟩|⟨rfl,rfl⟩
   ·exact⟨Z,C,hx,I W rfl k1,(hinn hi).1,λ_=>(hinn hi).2,rfl⟩
   ·exact⟨z1,C,hz1,I K rfl k1,hi,λh=>absurd h hn1,rfl⟩
   ·have:=hi.own;rw[g3]at this;cases this
  obtain⟨z0,_,hz0,hC0,hi0,hne0,_⟩:=hb1;rcases O J with ⟨rfl,rfl⟩|⟨hn2,hl2',hz2⟩|⟨rfl,rfl⟩
  ·exact hM.inA _ _ z0 Z C U V B' hz0 hC0 hi0 hx (I W rfl k2)
  ·exact hM.inA _ _ z0 z2 C U V B' hz0 hC0 hi0 hz2 (I hl2' rfl k2)
  ·have hLC:=N rfl k2;obtain⟨e1,e2,e3⟩:=hM.inB _ _ z0 Z C B U V i c B' hz0 hC0 hi0 hx hB (hLB B' hLC).1;exact hne0 e1 ⟨e2,e3⟩
 ·have hb1: ∀{b1:Nat} {z1:bG} {C U V:Nat},(mem.set b (some {Z with row:= .own e xs ((i,c,.msw mem.length 0)::hs)})++ [some {gen:=0,frz:=false,row}])[b1]?=some (some z1)->d5 (G.put mem.length 0 L) b1 z1 C->cA w C z1.row U V B'->
    ∃z0,mem[b1]?=some (some z0)/\d5 G b1 z0 C/\cA w C z0.row U V B':=by
   intro b1 z1 C U V Y k1 hi;rcases O Y with ⟨rfl,rfl⟩|⟨hn1,K,hz1⟩|⟨rfl,rfl⟩
   ·exact⟨Z,hx,I W rfl k1,(hinn hi).1⟩
   ·exact⟨z1,hz1,I K rfl k1,hi⟩
   ·have:=hi.own;rw[g3]at this;cases this
  obtain⟨y1,a1,a2,a3⟩:=hb1 Y k1 hi;obtain⟨y2,d1,d2,d3⟩:=hb1 J k2 hi2;exact hM.inB _ _ y1 y2 C D U V i2 c2 B' a1 a2 a3 d1 d2 d3
end Go.Ab
end
section
namespace Go.Ab
variable [b3]
theorem BV: ∀{a b:List aX},eA (a++b)=eA a++eA b
 | [],b=>rfl
 |r::a,b=>by simp[eA,BV (a:=a)]
theorem BN: ∀{a:List aX},(eA a).length=a.length
 | []=>rfl
 |r::a=>by simp[eA,BN (a:=a)]
theorem N9{m n:aK}{b:Nat}{x:Option bG}(h:b<m.length):(m++n).set b x=m.set b x++n:=List.set_append_left _ _ h
theorem pV{m:aK}{b:Nat}{x:Option bG}(h:m[b]?=some x):m.set b x=m:=by
 have H:=(yd.1 h).1;apply List.ext_getElem?;intro j;by_cases e:b=j
 ·subst e;rw[yw H,h]
 ·rw[yp e]
section
variable {P:Program}
theorem Mk{l:LK}{y:PV}{a:AV}(J:wO l=true)(h:fC true l y=some a): ∃u,y= .lit u/\a= .lit u/\kI u=true:=by
 cases l with
 |int k=>
  simp only[fC]at h;rw[bind_some]at h;obtain⟨x,H,h⟩:=h;obtain rfl:=ya h;unfold PV.int? at H;split at H
  ·rename_i K n;cases I:fY k K with
   |true=>rw[I]at H;obtain rfl:=ya H;rw[iV]at I;subst I;exact⟨_,rfl,rfl,rfl⟩
   |false=>rw[I]at H;cases H
  ·cases H
 |bool=>
  simp only[fC]at h;rw[bind_some]at h;obtain⟨x,H,h⟩:=h;obtain rfl:=ya h;unfold PV.bool? at H;split at H
  ·obtain rfl:=ya H;exact⟨_,rfl,rfl,rfl⟩
  ·cases H
 |str=>
  simp only[fC]at h;rw[bind_some]at h;obtain⟨x,H,h⟩:=h;obtain rfl:=ya h;unfold PV.str? at H;split at H
  ·obtain rfl:=ya H;exact⟨_,rfl,rfl,rfl⟩
  ·cases H
 |ints k=>cases J
 |sl t e=>cases J
structure O1 (G:Gh) (w:World) (mem:aK) (b:Nat) (bx:bG) (e:Nat) (xs:List PV) (hs':List (Nat×Nat×AV)) (rows:List aX) (G':Gh):Prop where
 gle:cJ G G'
 memr:aI G' w (mem.set b (some {bx with row:= .own e xs hs'})++eA rows)
theorem rJ{G:Gh}{w:World}{mem:aK}{b:Nat}{K:bG}{B e i c:Nat}{xs:List PV}{hs:List (Nat×Nat×AV)}{tk:Bool}{l:LK}{r:AV×List (Nat×Nat×AV)×List aX}(hM:aI G w mem)
  (V:mem[b]?=some (some K)) (I:K.row= .own e xs hs) (hB:d5 G b K B) (h:mJ tk xs i c l hs mem.length=some r):
  ∃N v,cl w B (i*e+c)=some v/\VR N w r.1 v/\O1 G w mem b K e xs r.2.1 r.2.2 N/\(r.2.2= []->r.2.1=hs):=by
 unfold mJ at h;rw[bind_some]at h;obtain⟨p,hp,h⟩:=h;rw[bind_some]at h;obtain⟨y,hy,h⟩:=h;obtain⟨_,_,_,_,_,_,hr,_⟩:=hM.blk V hB;rw[I]at hr;obtain⟨v,hv,hv1,J⟩:=IT hr hp hy;have same:O1 G w mem b K e xs hs [] G:=by
  refine⟨cJ.refl G,?_⟩;simp only[eA,yg1];have:(some {K with row:= .own e xs hs}:Option bG)=some K:=by rw[<-I]
  rw[this,pV V];exact hM
 split at h
 ·rename_i hh O;rw[aA]at h;obtain⟨hi,h⟩:=h;obtain rfl:=ya h;obtain rfl:=bI.1 hi;rw[v9 O]at J;exact⟨G,v,hv,J,same,λ_=>rfl⟩
 ·rename_i O;rw[dA O]at J;cases M:wO l with
  |true=>
   rw[M]at h;simp only[yl]at h;obtain⟨a,ha,rfl⟩:=yc.1 h;obtain⟨u,rfl,rfl,hu⟩:=Mk M ha;refine⟨G,v,hv,?_,same,λ_=>rfl⟩;rcases J with ⟨u',Z,rfl⟩|⟨row,H,_⟩
   ·obtain rfl:u=v:=by simpa using Z
    exact .lit u hu
   ·cases H
  |false=>
   rw[M]at h;simp only[yj]at h;rw[aA]at h;obtain⟨_,h⟩:=h;obtain⟨row,H,rfl⟩:=yc.1 h;obtain⟨N,v',_,Y,hg,W,U⟩:=Kp hM V I hB hp hy (dA O) H;exact⟨N,v',Y,W,⟨hg,U⟩,λh=>by cases h⟩
theorem zR{w:World}{b:Nat}{B e i:Nat}{xs:List PV}{tk:Bool}: ∀{ls:List LK} {c:Nat} {G:Gh} {mem:aK} {H:bG} {hs:List (Nat×Nat×AV)} {r:List AV×List (Nat×Nat×AV)×List aX},aI G w mem->
  mem[b]?=some (some H)->H.row= .own e xs hs->d5 G b H B->nE tk xs i ls c hs mem.length=some r->
  ∃G',O1 G w mem b H e xs r.2.1 r.2.2 G'/\(r.2.2= []->r.2.1=hs)/\r.1.length=ls.length/\∀(j:Nat) (a:AV),r.1[j]?=some a->∃v,cl w B (i*e+c+j)=some v/\VR G' w a v
 | [],c,G,mem,H,hs,r,hM,Z,I,hB,h=>by
  obtain rfl:=ya h;refine⟨G,⟨cJ.refl G,?_⟩,λ_=>rfl,rfl,λj a ha=>by simp at ha⟩;simp only[eA,yg1];have:(some {H with row:= .own e xs hs}:Option bG)=some H:=by rw[<-I]
  rw[this,pV Z];exact hM
 |l::ls,c,G,mem,H,hs,r,hM,Z,I,hB,h=>by
  simp only[nE]at h;rw[bind_some]at h;obtain⟨a,ha,h⟩:=h;obtain⟨q,hq,rfl⟩:=yc.1 h;obtain⟨G1,v,hv,hvr,⟨Y,hM1⟩,N⟩:=rJ hM Z I hB ha;have M:=(yd.1 Z).1;have hx1:(mem.set b (some {H with row:= .own e xs a.2.1})++eA a.2.2)[b]?=some (some {H with row:= .own e xs a.2.1}):=by
   rw[yn (by simpa using M),yw M]
  have hB1:d5 G1 b {H with row:= .own e xs a.2.1} B:=by
   obtain⟨L,hl,hk⟩:=hB;exact⟨L,Y.loc _ _ _ hl,hk⟩
  obtain⟨G2,⟨V,O⟩,K,W,hvs⟩:=zR (ls:=ls) (c:=c+1) hM1 hx1 rfl hB1 (by rw[ym1,yz2,BN];exact hq);refine⟨G2,⟨Y.trans V,?_⟩,λhn=>?_,by simp[W],λj a' J=>?_⟩
  ·rw[N9 (by simpa using M),List.set_set]at O;rw[BV,<-List.append_assoc];exact O
  ·have U:=List.append_eq_nil_iff.1 hn;rw[K U.2,N U.1]
  ·cases j with
   |zero=>simp at J;subst J;exact⟨v,by simpa using hv,hvr.mono V (Ev.refl _ _)⟩
   |succ j=>
    simp only[yd1]at J;obtain⟨u,hu,hur⟩:=hvs j a' J;exact⟨u,by rw[<-hu];congr 1;omega,hur⟩
theorem Dx{mem:aK}{b e:Nat}{H:bG}{xs:List PV}{v:AV}{hs hs':List (Nat×Nat×AV)}{rows:List aX}(J:mem[b]?=some (some H))(I:H.row= .own e xs hs)(hn:rows= []->hs'=hs):
  (yZ b e H xs v (hs',rows)).apply mem=mem.set b (some {H with row:= .own e xs hs'})++eA rows:=by
 unfold yZ;cases rows with
 |nil=>
  simp only[cU.apply,aM,eA,yg1];obtain rfl:=hn rfl;have:(some {H with row:= .own e xs hs'}:Option bG)=some H:=by rw[<-I]
  rw[this,pV J]
 |cons r rows=>simp only[cU.apply,aM]
theorem K1{b e:Nat}{H:bG}{xs:List PV}{v:AV}{q:List (Nat×Nat×AV)×List aX}:(yZ b e H xs v q).v=v:=by
 unfold yZ;split<;>rfl
theorem Jc{G:Gh}{w:World}{mem:aK}{tk:Bool}{t:TypeId}{a:AV}{out:cU}{cv:Value}(hM:aI G w mem)(h:zO P tk t mem a=some out)(ha:VR G w a cv):
  ∃N J,(Instr.loadAt t cv).run P w= .ok J w/\VR N w out.v J/\cJ G N/\aI N w (out.apply mem):=by
 unfold zO at h;split at h
 ·rename_i b g i c;rw[bind_some]at h;obtain⟨bx,hbx,h⟩:=h;obtain⟨hm,Y,hown⟩:=boxO?_some hbx;split at h
  ·rename_i e xs hs H;obtain⟨B,a0,rfl,hl,ha0,_⟩:=hM.at_ptr' hm Y ha;obtain rfl:=ha0 (by rw[H];rfl);rw[yy];have hB:d5 G b bx B:=⟨_,by rw[Y];exact hl,rfl⟩
   rw[show bx.row.e=e by rw[H];rfl];have Z: ∀J,(loadVar t ⟨B,i*e+c,none⟩).run P w= .ok J w->(Instr.loadAt t (.pointer (some ⟨B,i*e+c,none⟩))).run P w= .ok J w:=by
    intro J hh;simp[Instr.loadAt,Instr.sureAddr,hh]
   split at h
   ·rename_i M;rw[bind_some]at h;obtain⟨l,hl',h⟩:=h;obtain⟨q,hq,rfl⟩:=yc.1 h;obtain⟨N,v,hv,U,⟨hg,O⟩,I⟩:=rJ hM hm H hB hq;refine⟨N,v,Z _ (gR M hv),by rw[K1];exact U,hg,?_⟩;rw[Dx hm H I];exact O
   ·rename_i M;rw[bind_some]at h;obtain⟨ls,hls,h⟩:=h;rw[bind_some]at h;obtain⟨n,hn,h⟩:=h;rw[aA]at h;obtain⟨hnl,h⟩:=h;obtain⟨q,hq,rfl⟩:=yc.1 h;obtain rfl:=bI.1 hnl;obtain⟨N,⟨hg,O⟩,I,K,W⟩:=zR hM hm H hB hq;have V: ∀j,j<ls.length->cl w B (i*e+c+j)=some ((cl w B (i*e+c+j)).getD undef):=by
     intro j hj;obtain⟨v,hv,_⟩:=W j _ (yf (by rw[K];exact hj));rw[hv];rfl
    refine⟨N,_,Z _ (kG M hn (λj=>(cl w B (i*e+c+j)).getD undef) V),?_,hg,?_⟩
    ·rw[K1];refine .agg _ _ (by simp[K]) λj y hy=>?_;have hj:j<ls.length:=by rw[<-K];exact(yd.1 hy).1
     obtain⟨v,hv,U⟩:=W j y hy;simp only[yk];simp[hj,hv,U]
    ·rw[Dx hm H I];exact O
   ·cases h
  ·cases h
 ·cases h
theorem JP{G:Gh}{w:World}{mem:aK}{t ty:TypeId}{x:AV}{out:cU}{cv:Value}(hM:aI G w mem)(h:Im P t mem x=some out)(Y:VR G w x cv):
  out.wr= []/\out.push= []/\∃n:Nat,out.v= .lit (.int .i64 (n:Int))/\((∃e,P.underlying t=some (.slice e))/\∃a cap,cv= .slice a n cap):=by
 unfold Im at h;split at h
 ·rename_i e b g V;obtain⟨N,K,rfl⟩:=yc.1 h;obtain⟨hm,J,M⟩:=boxO?_some K;subst J;refine⟨rfl,rfl,N.row.len,rfl,⟨_,V⟩,?_⟩;obtain⟨o,a0,H,O,W⟩:=(hM.box b N hm).loc;cases Y with
  |msw _ _ cap L B I U hn hf=>
   rw[H]at I;obtain rfl:=ya I;exact⟨_,_,rfl⟩
  |mswNil _ _ L I U hn=>
   rw[H]at I;obtain rfl:=ya I;simp only at hn;rw[hn];exact⟨_,_,rfl⟩
 ·cases h
theorem HF{G:Gh}{w:World}{mem:aK}{t:TypeId}{x:AV}{k:IntKind}{i:Int}{out:cU}{cv:Value}(hM:aI G w mem)(h:pK P t mem x i=some out)(hx:VR G w x cv):
  out.wr= []/\out.push= []/\∃O,(Instr.indexAt t cv (.int k i)).run P w= .ok O w/\VR G w out.v O:=by
 unfold pK at h;split at h
 ·rename_i et hu;rw[bind_some]at h;obtain⟨s,hs,h⟩:=h;split at h
  ·rename_i b g o n;rw[bind_some]at h;obtain⟨W,N,h⟩:=h;obtain⟨hm,M,V⟩:=boxO?_some N;subst M;rw[aA]at h;obtain⟨U,h⟩:=h;simp only[yb,decide_eq_true_eq]at U;obtain⟨⟨K,g2⟩,g3⟩:=U;have K:=bI.1 K;obtain rfl:=ya h;obtain⟨oo,a0,I,Z,hmm⟩:=(hM.box b W hm).loc;refine⟨rfl,rfl,?_⟩;cases hx with
   |ms _ _ _ _ cap L B J Y hn hon hf=>
    have H:=J;rw[I]at H;obtain rfl:=ya H;refine⟨_,dF hu hs g2 g3 w,?_⟩;have:=VR.ptr (w:=w) b W.gen (o+i.toNat) 0 _ B J Y;simp only at this;rw[K];simp only[ys1,<-yj1];simpa using this
   |msNil=>omega
   |msZ=>omega
  ·rename_i b g;rw[bind_some]at h;obtain⟨W,N,h⟩:=h;obtain⟨hm,M,V⟩:=boxO?_some N;subst M;rw[aA]at h;obtain⟨U,h⟩:=h;simp only[yb,decide_eq_true_eq]at U;obtain⟨⟨K,g2⟩,g3⟩:=U;have K:=bI.1 K;obtain rfl:=ya h;obtain⟨oo,a0,I,Z,hmm⟩:=(hM.box b W hm).loc;refine⟨rfl,rfl,?_⟩;cases hx with
   |msw _ _ cap L B J Y hn hf=>
    have H:=J;rw[I]at H;obtain rfl:=ya H;refine⟨_,dF hu hs g2 g3 w,?_⟩;have:=VR.ptr (w:=w) b W.gen i.toNat 0 _ B J Y;simp only at this;rw[K];simpa using this
   |mswNil _ _ L J Y hn=>
    rw[I]at J;obtain rfl:=ya J;simp only at hn;omega
  ·cases h
 ·cases h
theorem GN{G:Gh}{w:World}{mem:aK}{t:TypeId}{x:AV}{lo hi mx:Option Int}{vl vh vm:Option Value}{out:cU}{cv:Value}(hM:aI G w mem)(h:pA P t mem x lo hi mx=some out)(hx:VR G w x cv)
  (hl:mF lo vl) (hh:mF hi vh) (hm:mF mx vm):OI G w P (Instr.sliceAt t cv vl vh vm) out:=by
 unfold pA at h;split at h
 ·rename_i et hu;rw[bind_some]at h;obtain⟨s,hs,h⟩:=h;split at h
  ·rename_i b g o n;rw[bind_some]at h;obtain⟨bx,O,h⟩:=h;obtain⟨U,N,hown⟩:=boxO?_some O;subst N;rw[aA]at h;obtain⟨M,h⟩:=h;have M:=bI.1 M;subst M;obtain⟨⟨l,h'⟩,K,rfl⟩:=yc.1 h;obtain⟨oo,a0,H,ha0,hmm'⟩:=(hM.box b bx U).loc;cases hx with
   |ms _ _ _ _ cap L B hL hB hn J hf=>
    have I:=hL;rw[H]at I;obtain rfl:=ya I;simp only at hB J hf⊢;subst hB;obtain⟨m,hr,V,Z,Y,W⟩:=b5 (P:=P) (isSlice:=true) (cap:=cap) K hn hl hh hm w;have:=yX (o:=o) (n:=n) hL hf J V Z Y W;exact⟨rfl,rfl,_,a6 hu hs hr,by simpa[cO]using this⟩
   |msNil _ _ L hL hB=>
    rw[H]at hL;obtain rfl:=ya hL;simp only at hB;subst hB;obtain⟨m,hr,V,Z,Y,W⟩:=b5 (P:=P) (isSlice:=true) (cap:=0) K (by simp) hl hh hm w;refine⟨rfl,rfl,_,a6 hu hs (a:=none) hr,?_⟩;obtain rfl:l=0:=by omega
    obtain rfl:h'=0:=by omega
    obtain rfl:m=0:=by omega
    exact .msNil b _ _ H rfl
   |msZ _ _ _ B oo2 L hL hB ho J=>
    obtain⟨m,hr,V,Z,Y,W⟩:=b5 (P:=P) (isSlice:=true) (cap:=0) K (by simp) hl hh hm w;refine⟨rfl,rfl,_,a6 hu hs (a:=some ⟨B,oo2,none⟩) hr,?_⟩;obtain rfl:l=0:=by omega
    obtain rfl:h'=0:=by omega
    obtain rfl:m=0:=by omega
    simpa[cO]using VR.msZ (w:=w) b bx.gen o B oo2 L hL hB ho J
  ·rename_i b g;rw[bind_some]at h;obtain⟨bx,O,h⟩:=h;obtain⟨U,N,hown⟩:=boxO?_some O;subst N;rw[aA]at h;obtain⟨M,h⟩:=h;have M:=bI.1 M;subst M;obtain⟨⟨l,h'⟩,K,rfl⟩:=yc.1 h;obtain⟨oo,a0,H,ha0,hmm'⟩:=(hM.box b bx U).loc;cases hx with
   |msw _ _ cap L B hL hB hn hf=>
    have I:=hL;rw[H]at I;obtain rfl:=ya I;simp only at hB hn hf⊢;subst hB;obtain⟨m,hr,V,Z,Y,W⟩:=b5 (P:=P) (isSlice:=true) (cap:=cap) K hn hl hh hm w;have:=yX (o:=0) (n:=bx.row.len) hL (by simpa using hf) (by simp) V Z Y W;exact⟨rfl,rfl,_,a6 hu hs hr,by simpa[cO]using this⟩
   |mswNil _ _ L hL hB hn=>
    rw[H]at hL;obtain rfl:=ya hL;simp only at hB hn;subst hB;rw[hn]at K;obtain⟨m,hr,V,Z,Y,W⟩:=b5 (P:=P) (isSlice:=true) (cap:=0) K (by simp) hl hh hm w;refine⟨rfl,rfl,_,a6 hu hs (a:=none) hr,?_⟩;obtain rfl:l=0:=by omega
    obtain rfl:h'=0:=by omega
    obtain rfl:m=0:=by omega
    exact .msNil b _ _ H rfl
  ·cases h
 ·cases h
end
end Go.Ab
end
section
namespace Go.Ab
variable [b3]
theorem L7{v:Value}(h:v.oneCell'=true):v.cells.toList= [v]:=by
 cases v<;>first|rfl|cases h
theorem rW{p z y:PV}{c:Nat}(K:p.cells[c]?=some y)(I:z.cells= [z])(j:Nat):(iB p c z).cells[j]?=(if j=c then some z else p.cells[j]?):=by
 have H:=(yd.1 K).1;cases p with
 |agg cs=>
  show(cs.set c z)[j]?=_
  by_cases e:j=c
  ·subst e;rw[if_pos rfl,yw (show j<cs.length from H)]
  ·rw[if_neg e,yp (λx=>e x.symm)];rfl
 |_=>
  have J:c=0:=by simp[PV.cells]at H;exact H
  subst J;show z.cells[j]?=_;rw[I];by_cases e:j=0
  ·subst e;rfl
  ·rw[if_neg e];obtain⟨k,rfl⟩: ∃k,j=k+1:=⟨j-1,by omega⟩
   simp[PV.cells]
theorem FT{p z y:PV}{c:Nat}(hc:p.cells[c]?=some y)(H:z.cells= [z]):(iB p c z).cells.length=p.cells.length:=by
 cases p with
 |agg cs=>show(cs.set c z).length=cs.length;simp
 |_=>show z.cells.length=1;rw[H];rfl
theorem Hc{α:Type}{xs:List α}{i j:Nat}{v x:α}(h:(xs.set i v)[j]?=some x):(j=i/\x=v)\/(j≠i/\xs[j]?=some x):=by
 by_cases e:j=i
 ·subst e;have H:=(yd.1 h).1;rw[yw (by simpa using H)]at h;exact .inl ⟨rfl,by simpa using h.symm⟩
 ·rw[yp (λx=>e x.symm)]at h;exact .inr ⟨e,h⟩
def kV(G:Gh)(w:World)(o:Option AV)(y:PV)(u:Value):Prop:=
 (∃a,o=some a/\VR G w a u)\/(o=none/\((∃z,y= .lit z/\u=z)\/∃row,cH y=some row/\u= .slice none 0 0/\row.len=0))
theorem kV.hr{G H:Gh}{w I:World}{o:Option AV}{y:PV}{u:Value}(O:cJ G H)(K:Ev G w I)(h:kV G w o y u):HR H I o y u:=by
 rcases h with ⟨a,rfl,h⟩|⟨rfl,⟨z,rfl,rfl⟩|⟨row,N,M,J⟩⟩
 ·exact h.mono O K
 ·exact .inl ⟨_,rfl,rfl⟩
 ·exact .inr ⟨row,N,.inl ⟨M,J⟩⟩
theorem kV.out{G:Gh}{w:World}{y:PV}{u:Value}{row:aX}{a:Addr}{n cap:Nat}(h:kV G w none y u)(I:cH y=some row):u≠ .slice (some a) n cap:=by
 rcases h with ⟨a,h,_⟩|⟨_,⟨z,rfl,rfl⟩|⟨row,h1,H,h3⟩⟩
 ·cases h
 ·cases I
 ·rw[H];intro h;cases h
theorem Be{G:Gh}{w:World}{mem:aK}{b:Nat}{bx:bG}{B e i c:Nat}{xs O:List PV}{hs hs':List (Nat×Nat×AV)}{p y:PV}{V:Value}(hM:aI G w mem)(hx:mem[b]?=some (some bx))(H:bx.row= .own e xs hs)(hB:d5 G b bx B)
  (hfrz:bx.frz=false) (hp:xs[i]?=some p) (hy:p.cells[c]?=some y) (h1:V.oneCell'=true) (hlen:O.length=xs.length) (hbnd: ∀h∈hs',h.1<xs.length) (hel: ∀x∈O,x.cells.length=e)
  (hA: ∀J x' I N,O[J]?=some x'->x'.cells[I]?=some N->¬(J=i/\I=c)->∃x0,xs[J]?=some x0/\x0.cells[I]?=some N/\aH J I hs'=aH J I hs)
  (hC: ∀x' N,O[i]?=some x'->x'.cells[c]?=some N->kV G w (aH i c hs') N V):
  Ev G w (w.setCells B (i*e+c) [V])/\aI G (w.setCells B (i*e+c) [V]) (mem.set b (some {bx with row:= .own e O hs'})):=by
 obtain⟨a0,hl,ha0,hmi,hlt,hfr,hr,hpr⟩:=hM.blk hx hB;obtain rfl:=ha0 (by rw[H];rfl);rw[H]at hr;have hr0:=hr;obtain⟨r1,r2,r3⟩:=hr;have hce:c<e:=by rw[<-r2 p (yt hp)];exact(yd.1 hy).1
 obtain⟨v0,hv0,_⟩:=r3 i p c y hp hy;have U: ∀j,j< [V].length->(cl w B (i*e+c+j)).isSome=true:=λj hj=>by
  have:j=0:=by simpa using hj
  subst this;rw[yk1,hv0];rfl
 have hat:cl (w.setCells B (i*e+c) [V]) B (i*e+c)=some V:=by
  have:=i4 (w:=w) (B:=B) (o:=i*e+c) (vs:= [V]) U (j:=0) (by simp);simpa using this
 have hoff: ∀J I,I<e->¬(J=i/\I=c)->cl (w.setCells B (i*e+c) [V]) B (J*e+I)=cl w B (J*e+I):=by
  intro J I hc' hne;refine gN ?_;have hd:=AO (i:=i) hce;have hd':=AO (i:=J) hc';have:J*e+I≠i*e+c:=λh=>hne ⟨by rw[<-hd'.1,<-hd.1,h],by rw[<-hd'.2,<-hd.2,h]⟩;simp;omega
 have:=FZ (row':= .own e O hs') (o:=i*e+c) (xs:= [V]) hM hx (by rw[H];rw[H]at hl;exact hl) hfrz U (by rw[H];rfl) (by rw[H];exact hlen) (λ_=>rfl)
  (λhev=>⟨λh Z=>by rw[hlen];exact hbnd h Z,hel,λJ x' I N g1 g2=>?_⟩) (λJ I X hi=>?_)
 ·exact this
 ·have W:I<e:=by rw[<-hel x' (yt g1)];exact(yd.1 g2).1
  by_cases Z:J=i/\I=c
  ·obtain⟨rfl,rfl⟩:=Z;exact⟨V,hat,h1,(hC x' N g1 g2).hr (cJ.refl G) hev⟩
  ·obtain⟨x0,k1,k2,k3⟩:=hA J x' I N g1 g2 Z;obtain⟨v,hv,hv1,Y⟩:=r3 J x0 I N k1 k2;refine⟨v,by rw[hoff J I W Z];exact hv,hv1,?_⟩;rw[k3];cases ho:aH J I hs with
   |some a=>rw[ho]at Y;exact VR.mono (cJ.refl G) hev Y
   |none=>
    rw[ho]at Y;refine OR.mono (cJ.refl G) hev Y λX a' n cap M hvv=>?_;obtain⟨row2,M⟩:=M;have hi:cA w B bx.row J I X:=by rw[H];exact⟨⟨x0,N,row2,k1,k2,M⟩,ho,a',n,cap,by rw[hv,hvv]⟩
    have hne:X≠B:=λh=>hM.inA b b bx bx B J I X hx hB hi hx (by rw[h];exact hB);exact⟨.of (cY (w:=w) hne _ _ w),(hM.inn hx hB hi).2.2.2⟩
 ·obtain⟨⟨x',N,row,g1,g2,g3⟩,ho,a',n,cap,K⟩:=hi;have W:I<e:=by rw[<-hel x' (yt g1)];exact(yd.1 g2).1
  by_cases Z:J=i/\I=c
  ·obtain⟨rfl,rfl⟩:=Z;rw[hat]at K;have hn:=hC x' N g1 g2;rw[ho]at hn;exact absurd (ya K) (hn.out g3)
  ·obtain⟨x0,k1,k2,k3⟩:=hA J x' I N g1 g2 Z;rw[hoff J I W Z]at K;rw[H];exact⟨⟨x0,N,row,k1,k2,g3⟩,by rw[<-k3];exact ho,a',n,cap,K⟩
theorem Do{c i:Nat}{v:AV}: ∀{hs:List (Nat×Nat×AV)},i6 c hs=some (i,v)->∀K H,¬(K=i/\H=c)->aH K H (zT c hs)=aH K H hs
 | [],h=>by cases h
 |(j,H,u)::r,h=>by
  intro N O I;simp only[i6]at h;simp only[zT];cases J:Nat.beq c H with
  |true=>
   rw[J]at h;simp only[yl,Option.some.injEq,Prod.mk.injEq]at h;obtain⟨rfl,rfl⟩:=h;obtain rfl:=bI.1 J;simp only[yl,aH];rw[if_neg (λM=>I ⟨M.1.symm,M.2.symm⟩)]
  |false=>
   rw[J]at h;simp only[yj]at h;simp only[yj,aH];split
   ·rfl
   ·exact Do h N O I
theorem FW{c:Nat}: ∀{hs:List (Nat×Nat×AV)},∀h∈zT c hs,h∈hs
 | [],h,H=>by cases H
 |(j,J,u)::r,h,H=>by
  simp only[zT]at H;cases I:Nat.beq c J with
  |true=>rw[I]at H;exact yg _ H
  |false=>
   rw[I]at H;simp only[yj]at H;rcases yl1.1 H with rfl|H
   ·exact ym ..
   ·exact yg _ (FW h H)
theorem CI{i c:Nat}{hs hs':List (Nat×Nat×AV)}(h:Ce i c hs=some hs'):(∀K J,¬(K=i/\J=c)->aH K J hs'=aH K J hs)/\aH i c hs'=none/\∀x∈hs',x∈hs:=by
 unfold Ce at h;split at h
 ·rename_i I;obtain rfl:=ya h;exact⟨λ_ _ _=>rfl,dA I,λ_ h=>h⟩
 ·rename_i q I;rw[aA]at h;obtain⟨H,h⟩:=h;simp only[yb]at H;obtain rfl:=bI.1 H.1;obtain rfl:=ya h;obtain⟨i0,v⟩:=q;exact⟨Do I,dA (Option.isNone_iff_eq_none.1 H.2),FW⟩
section
variable {P:Program}
theorem Hp{G:Gh}{w:World}{mem:aK}{t:TypeId}{a x:AV}{out:cU}{ca cx:Value}(hM:aI G w mem)(h:kH P t mem a x=some out)(ha:VR G w a ca)(hx:VR G w x cx):
  out.v= .lit undef/\∃w',(Instr.storeAt t ca cx).run P w= .ok () w'/\Ev G w w'/\aI G w' (out.apply mem):=by
 unfold kH at h;split at h
 ·rename_i b g i c;rw[bind_some]at h;obtain⟨bx,hbx,h⟩:=h;obtain⟨hm,hge,hown⟩:=boxO?_some hbx;split at h
  ·rename_i e xs hs I;rw[bind_some]at h;obtain⟨n,hn,h⟩:=h;rw[aA]at h;obtain⟨hg,h⟩:=h;simp only[yb,yq]at hg;obtain⟨⟨g1,g2⟩,g3⟩:=hg;obtain rfl:=bI.1 g1;rw[bind_some]at h;obtain⟨p,hp,h⟩:=h;rw[bind_some]at h;obtain⟨y,hy,h⟩:=h;obtain⟨B,a0,rfl,hl,ha0,hmine,hB0,hfz,hr,hpr⟩:=hM.at_ptr' hm hge ha;obtain rfl:=ha0 (by rw[I];rfl);rw[yy];have hB:d5 G b bx B:=⟨_,by rw[hge];exact hl,rfl⟩
   rw[show bx.row.e=e by rw[I];rfl];rw[I]at hr;have h1:=Ij hx g3;have hcc:=L7 h1;have hel:=hr.2.1;have V:=hr.1;have U:(Instr.storeAt t (.pointer (some ⟨B,i*e+c,none⟩)) cx).run P w= .ok () (w.setCells B (i*e+c) [cx]):=by
    obtain⟨v0,hv0,_⟩:=hr.2.2 i p c y hp hy;have hs1: ∀j,j<1->(cl w B (i*e+c+j)).isSome=true:=λj hj=>by
     have:j=0:=by omega
     subst this;rw[yk1,hv0];rfl
    have:=zM (P:=P) (cv:=cx) (B:=B) (o:=i*e+c) (w:=w) hn (by rw[<-yx1,hcc];rfl) hs1 (λj hj=>hfz.cell (hs1 j hj)) (by rw[hcc];simpa using h1);rw[hcc]at this;simp[Instr.storeAt,Instr.sureAddr,this]
   have hset: ∀z:PV,z.cells= [z]->(∀x∈xs.set i (iB p c z),x.cells.length=e)/\(xs.set i (iB p c z)).length=xs.length/\
     (∀K x' O J,(xs.set i (iB p c z))[K]?=some x'->x'.cells[O]?=some J->¬(K=i/\O=c)->∃x0,xs[K]?=some x0/\x0.cells[O]?=some J)/\
     (∀x' J,(xs.set i (iB p c z))[i]?=some x'->x'.cells[c]?=some J->J=z):=by
    intro z hz;refine⟨λx hx=>?_,by simp,λK x' O J k1 M H=>?_,λx' J k1 M=>?_⟩
    ·rcases yk2 hx with h|h
     ·exact hel x h
     ·rw[h,FT hy hz];exact hel p (yt hp)
    ·rcases Hc k1 with ⟨rfl,rfl⟩|⟨hn,k1⟩
     ·rw[rW hy hz,if_neg (λh=>H ⟨rfl,h⟩)]at M;exact⟨p,hp,M⟩
     ·exact⟨x',k1,M⟩
    ·rcases Hc k1 with ⟨_,rfl⟩|⟨hn,_⟩
     ·rw[rW hy hz,if_pos rfl]at M;exact(ya M).symm
     ·exact absurd rfl hn
   split at h
   ·rename_i u v;rw[aA]at h;obtain⟨hg,h⟩:=h;simp only[yb]at hg;obtain rfl:=ya h;obtain rfl:=hx.lit_inv;obtain⟨s1,s2,s3,s4⟩:=hset (.lit cx) rfl;have ho:=dA (i:=i) (Option.isNone_iff_eq_none.1 hg.2);obtain⟨Y,W⟩:=Be hM hm I hB g2 hp hy h1 s2 V s1 (λK x' O J k1 M H=>by obtain⟨x0,q1,q2⟩:=s3 K x' O J k1 M H;exact⟨x0,q1,q2,rfl⟩) (λx' J k1 M=> .inr ⟨ho,.inl ⟨cx,s4 x' J k1 M,rfl⟩⟩);exact⟨rfl,_,U,Y,by rw[cZ];exact W⟩
   ·cases h
   ·rename_i hny;rw[bind_some]at h;obtain⟨J,N,h⟩:=h;obtain⟨hs',hfr,rfl⟩:=yc.1 h;obtain rfl:=hx.lit_inv;obtain⟨f1,f2,f3⟩:=CI hfr;have hz:J.cells= [J]/\∃row',cH J=some row'/\row'.len=0:=by
     cases y with
     |ints k ys=>obtain rfl:=ya N;exact⟨rfl,_,rfl,rfl⟩
     |sl e' ys=>
      simp only[z5]at N;rw[aA]at N;obtain⟨he,N⟩:=N;obtain rfl:=ya N;exact⟨rfl,.pvs false e' [],by simp only[cH,guardB,he,yl],rfl⟩
     |lit u=>cases N
     |agg cs=>cases N
    obtain⟨hz,row',hl',h0'⟩:=hz;obtain⟨s1,s2,s3,s4⟩:=hset J hz;obtain⟨Y,W⟩:=Be hM hm I hB g2 hp hy h1 s2 (λh Z=>V h (f3 h Z)) s1 (λK x' O J k1 M H=>by obtain⟨x0,q1,q2⟩:=s3 K x' O J k1 M H;exact⟨x0,q1,q2,f1 K O H⟩)
     (λx' y2 k1 M=> .inr ⟨f2,.inr ⟨row',by rw[s4 x' y2 k1 M];exact hl',rfl,h0'⟩⟩)
    exact⟨rfl,_,U,Y,by rw[cZ];exact W⟩
   ·cases h
   ·obtain⟨hs',hfr,rfl⟩:=yc.1 h;obtain⟨f1,f2,f3⟩:=CI hfr;have hhead: ∀K O,¬(K=i/\O=c)->aH K O ((i,c,x)::hs')=aH K O hs:=by
     intro K O H;simp only[aH];rw[if_neg (λZ=>H ⟨Z.1.symm,Z.2.symm⟩)];exact f1 K O H
    obtain⟨Y,W⟩:=Be (hs':=(i,c,x)::hs') hM hm I hB g2 hp hy h1 rfl (λh Z=>by
      rcases yl1.1 Z with rfl|Z
      ·exact(yd.1 hp).1
      ·exact V h (f3 h Z)) hel (λK x' O J k1 M H=>⟨x',k1,M,hhead K O H⟩)
     (λx' y2 k1 M=> .inl ⟨x,by simp[aH],hx⟩)
    exact⟨rfl,_,U,Y,by rw[cZ];exact W⟩
  ·cases h
 ·cases h
theorem fO{i c:Nat}: ∀{a b:List (Nat×Nat×AV)},aH i c (a++b)=(match aH i c a with|some v=>some v|none=>aH i c b)
 | [],b=>rfl
 |(i',c',v)::a,b=>by
  simp only[yt2,aH];split
  ·rfl
  ·exact fO
theorem eW{i c:Nat}: ∀{hs:List (Nat×Nat×AV)},(∀h∈hs,¬(h.1=i/\h.2.1=c))->aH i c hs=none
 | [],_=>rfl
 |(i',c',v)::r,h=>by
  simp only[aH];rw[if_neg (h _ (ym ..))];exact eW λx H=>h x (yg _ H)
theorem Je{G:Gh}{w:World}{l:LK}{v:AV}{j c:Nat}{q:PV×List (Nat×Nat×AV)}{u:Value}(h:zF l v j c=some q)(I:VR G w v u):
  kV G w (aH j c q.2) q.1 u/\q.1.cells= [q.1]/\∀x∈q.2,x.1=j/\x.2.1=c:=by
 unfold zF at h;have hole: ∀{p:PV},q=(p,[(j,c,v)])->p.cells= [p]->kV G w (aH j c q.2) q.1 u/\q.1.cells= [q.1]/\∀x∈q.2,x.1=j/\x.2.1=c:=by
  rintro p rfl K
  exact⟨.inl ⟨v,by simp[aH],I⟩,K,λx H=>by simp at H;subst H;exact⟨rfl,rfl⟩⟩
 split at h
 ·rw[aA]at h;obtain⟨_,h⟩:=h;obtain rfl:=ya h;obtain rfl:=I.lit_inv;exact⟨.inr ⟨rfl,.inl ⟨_,rfl,rfl⟩⟩,rfl,λx H=>by cases H⟩
 ·obtain rfl:=ya h;obtain rfl:=I.lit_inv;exact⟨.inr ⟨rfl,.inl ⟨_,rfl,rfl⟩⟩,rfl,λx H=>by cases H⟩
 ·obtain rfl:=ya h;obtain rfl:=I.lit_inv;exact⟨.inr ⟨rfl,.inl ⟨_,rfl,rfl⟩⟩,rfl,λx H=>by cases H⟩
 ·obtain rfl:=ya h;obtain rfl:=I.lit_inv;exact⟨.inr ⟨rfl,.inr ⟨_,rfl,rfl,rfl⟩⟩,rfl,λx H=>by cases H⟩
 ·rename_i t e;rw[aA]at h;obtain⟨J,h⟩:=h;obtain rfl:=ya h;obtain rfl:=I.lit_inv;exact⟨.inr ⟨rfl,.inr ⟨.pvs false e [],by simp only[cH,guardB,J,yl],rfl,rfl⟩⟩,rfl,λx H=>by cases H⟩
 ·exact hole (ya h).symm rfl
 ·exact hole (ya h).symm rfl
 ·rw[aA]at h;obtain⟨_,h⟩:=h;exact hole (ya h).symm rfl
 ·rw[aA]at h;obtain⟨_,h⟩:=h;exact hole (ya h).symm rfl
 ·cases h
theorem Bg{G:Gh}{w:World}{j:Nat}: ∀{ls:List LK} {vs:List AV} {c:Nat} {q:List PV×List (Nat×Nat×AV)} {us:List Value},MG ls vs j c=some q->gH G w vs us->
  q.1.length=vs.length/\(∀x∈q.2,x.1=j/\c≤x.2.1)/\∀(k:Nat) (y:PV),q.1[k]?=some y->∃u,us[k]?=some u/\kV G w (aH j (c+k) q.2) y u/\y.cells= [y]
 | [],[],c,q,us,h,J=>by
  obtain rfl:=ya h;exact⟨rfl,λx H=>(nomatch H),λk y I=>by simp at I⟩
 | [],v::vs,c,q,us,h,_=>by simp[MG]at h
 |l::ls,[],c,q,us,h,_=>by simp[MG]at h
 |l::ls,v::vs,c,q,[],h,J=>by simp[gH]at J
 |l::ls,v::vs,c,q,u::us,h,J=>by
  simp only[MG]at h;rw[bind_some]at h;obtain⟨a,ha,h⟩:=h;obtain⟨r,hr,rfl⟩:=yc.1 h;obtain⟨a1,W,O⟩:=Je ha (J.2 0 v rfl);obtain⟨r1,N,Z⟩:=Bg (us:=us) hr ⟨by simpa using J.1,λj y I=>by simpa using J.2 (j+1) y (by simpa using I)⟩;refine⟨by simp[r1],λx H=>?_,λk y I=>?_⟩
  ·rcases yn1.1 H with H|H
   ·obtain⟨K,Y⟩:=O x H;exact⟨K,by omega⟩
   ·obtain⟨K,Y⟩:=N x H;exact⟨K,by omega⟩
  ·cases k with
   |zero=>
    simp at I;subst I;refine⟨u,rfl,?_,W⟩;simp only[yk1];rw[fO];have:aH j c r.2=none:=eW λx H hh=>by have:=(N x H).2;omega
    rw[this];cases U:aH j c a.2 with
    |some v'=>rw[U]at a1;exact a1
    |none=>rw[U]at a1;exact a1
   |succ k=>
    simp only[yd1]at I;obtain⟨V,M,hn,hc⟩:=Z k y I;refine⟨V,by simpa using M,?_,hc⟩;have:aH j (c+(k+1)) a.2=none:=eW λx H hh=>by have:=(O x H).2;omega
    simp only;rw[fO,this,show c+(k+1)=c+1+k by omega];exact hn
theorem BU{t:TypeId}{cs:List PV}{p:PV}(h:qZ P t cs=some p)(H: ∀(k:Nat) (y:PV),cs[k]?=some y->y.cells= [y]):p.cells=cs:=by
 unfold qZ at h;split at h
 ·obtain rfl:=ya h;rfl
 ·split at h
  ·rename_i c _;obtain rfl:=ya h;exact H 0 _ rfl
  ·cases h
 ·cases h
structure HM (G:Gh) (w:World) (e j n:Nat) (us:List Value) (q:List PV×List (Nat×Nat×AV)):Prop where
 len:q.1.length=n
 ix: ∀x∈q.2,j≤x.1/\x.1<j+n
 size: ∀x∈q.1,x.cells.length=e
 cell: ∀(k c:Nat) (p y:PV),q.1[k]?=some p->p.cells[c]?=some y->∃u,us[k*e+c]?=some u/\kV G w (aH (j+k) c q.2) y u
theorem mC{G:Gh}{w:World}{t:TypeId}{ls:List LK}{e:Nat}(O:ls.length=e): ∀{I:List (List AV)} {j:Nat} {q:List PV×List (Nat×Nat×AV)} {us:List Value},Cq P t ls I j=some q->
  (∀(k:Nat) (cs:List AV),I[k]?=some cs->gH G w cs ((us.drop (k*e)).take e))->HM G w e j I.length us q
 | [],j,q,us,h,Y=>by
  obtain rfl:=ya h;exact⟨rfl,λx H=>(nomatch H),λx H=>(nomatch H),λk c p y V=>by simp at V⟩
 |cs::I,j,q,us,h,Y=>by
  simp only[Cq]at h;rw[bind_some]at h;obtain⟨a,ha,h⟩:=h;rw[bind_some]at h;obtain⟨p,V,h⟩:=h;obtain⟨r,hr,rfl⟩:=yc.1 h;have h0:=Y 0 cs rfl;simp only[yx2,List.drop_zero]at h0;obtain⟨a1,a2,a3⟩:=Bg ha h0;have M:=BU V (λk y K=>by obtain⟨_,_,_,h⟩:=a3 k y K;exact h);have W:cs.length=e:=by
   have: ∀{ls:List LK} {vs:List AV} {c:Nat} {q:List PV×List (Nat×Nat×AV)},MG ls vs j c=some q->ls.length=vs.length:=by
    intro ls
    induction ls with
    |nil=>intro vs c q h;cases vs with|nil=>rfl|cons v vs=>simp[MG]at h
    |cons l ls ih=>
     intro vs c q h;cases vs with
     |nil=>simp[MG]at h
     |cons v vs=>
      simp only[MG]at h;rw[bind_some]at h;obtain⟨_,_,h⟩:=h;obtain⟨r,hr,_⟩:=yc.1 h;simp[ih hr]
   rw[<-this ha,O]
  obtain⟨r1,Z,r3,r4⟩:=mC O (us:=us.drop e) hr (λk cs hk=>by
   have:=Y (k+1) cs (by simpa using hk);rw[List.drop_drop,show e+k*e=(k+1)*e by rw[yj1];omega];exact this)
  refine⟨by simp[r1],λx H=>?_,λx H=>?_,λk c p' y J K=>?_⟩
  ·rcases yn1.1 H with H|H
   ·have:=(a2 x H).1;simp;omega
   ·have:=Z x H;simp;omega
  ·rcases yl1.1 H with rfl|H
   ·rw[M,a1,W]
   ·exact r3 x H
  ·cases k with
   |zero=>
    simp at J;subst J;rw[M]at K;obtain⟨u,N,hn,_⟩:=a3 c y K;have U:c<e:=by have:=(yd.1 K).1;omega
    rw[yi1,if_pos U]at N;refine⟨u,by simpa using N,?_⟩;simp only[yk1];rw[fO];have:aH j c r.2=none:=eW λx H hh=>by have:=(Z x H).1;omega
    rw[this];rw[yy]at hn;cases ho:aH j c a.2 with
    |some v'=>rw[ho]at hn;exact hn
    |none=>rw[ho]at hn;exact hn
   |succ k=>
    simp only[yd1]at J;obtain⟨u,N,hn⟩:=r4 k c p' y J K;rw[yz]at N;refine⟨u,by rw[<-N];congr 1;rw[yj1];omega,?_⟩;have:aH (j+(k+1)) c a.2=none:=eW λx H hh=>by have:=(a2 x H).1;omega
    simp only;rw[fO,this,show j+(k+1)=j+1+k by omega];exact hn
def MV(G:Gh)(w:World)(mem:aK)(b e:Nat)(Bold:Option Nat)(xs0:List PV)(hs:List (Nat×Nat×AV))(vs0:List Value):Prop:=
 ∀(i:Nat) (x:PV) (c:Nat) (y:PV),xs0[i]?=some x->x.cells[c]?=some y->∃v,vs0[i*e+c]?=some v/\v.oneCell'=true/\
  ((∃ a, aH i c hs = some a ∧ VR G w a v) ∨ (aH i c hs = none ∧ OR G w y v ∧ ∀ X a' n cap, (∃ row, cH y = some row) → v = .slice (some ⟨X, a', none⟩) n cap →
   (∃ (x : bG) (B : Nat), mem[b]? = some (some x) ∧ d5 G b x B ∧ cA w B x.row i c X) ∧ Bold ≠ some X))
theorem BE{n:Nat}: ∀{hs:List (Nat×Nat×AV)},jY n hs=true->∀h∈hs,h.1<n
 | [],_,h,I=>by cases I
 |(i,c,v)::r,h,x,H=>by
  simp only[jY,yb]at h;rcases yl1.1 H with rfl|H
  ·have:=h.1;simp[Nat.blt]at this;exact this
  ·exact BE h.2 x H
theorem lR{G:Gh}{w:World}{mem:aK}{b g' e n:Nat}{Bold:Option Nat}{xs0:List PV}{hs:List (Nat×Nat×AV)}{vs0 us:List Value}{q:List PV×List (Nat×Nat×AV)}(hM:aI G w mem)(hno:G.loc b g'=none)
  (U:jY xs0.length hs=true) (hsz: ∀x∈xs0,x.cells.length=e) (hv0:vs0.length=xs0.length*e) (Y:MV G w mem b e Bold xs0 hs vs0) (H:HM G w e xs0.length n us q) (h1: ∀u∈us,u.oneCell'=true):
  rA G w mem b g' (.own e (xs0++q.1) (hs++q.2)) Bold (vs0++us):=by
 have U:=BE U;have hoL: ∀i c,i<xs0.length->aH i c (hs++q.2)=aH i c hs:=by
  intro i c V;rw[fO];have:aH i c q.2=none:=eW λx J hh=>by have:=(H.ix x J).1;omega
  rw[this];cases aH i c hs<;>rfl
 have hoR: ∀k c,aH (xs0.length+k) c (hs++q.2)=aH (xs0.length+k) c q.2:=by
  intro k c;rw[fO];have:aH (xs0.length+k) c hs=none:=eW λx J hh=>by have:=U x J;omega
  rw[this]
 have M: ∀{i:Nat} {x:PV},(xs0++q.1)[i]?=some x->(i<xs0.length/\xs0[i]?=some x)\/(∃k,i=xs0.length+k/\q.1[k]?=some x):=by
  intro i x h;by_cases V:i<xs0.length
  ·rw[yn V]at h;exact .inl ⟨V,h⟩
  ·rw[yu (by omega)]at h;exact .inr ⟨i-xs0.length,by omega,h⟩
 have hsz2: ∀x∈xs0++q.1,x.cells.length=e:=λx J=>(yn1.1 J).elim (hsz x) (H.size x);have hL: ∀{i c:Nat} {x y:PV} {v:Value},xs0[i]?=some x->x.cells[c]?=some y->vs0[i*e+c]?=some v->(vs0++us)[i*e+c]?=some v:=λ_ _ hv=>by rw[yn (yd.1 hv).1];exact hv
 have hR: ∀{k c:Nat} {u:Value},us[k*e+c]?=some u->(vs0++us)[(xs0.length+k)*e+c]?=some u:=by
  intro k c u hu;rw[yu (by rw[hv0,yj1];omega),hv0,show(xs0.length+k)*e+c-xs0.length*e=k*e+c by rw[yj1];omega];exact hu
 refine⟨λw1 B' a' ha' Z hsame O=>?_,λw1 B' a' i c X ha' O V=>?_⟩<;>obtain rfl:=ha' rfl<;>simp only[yy]at O
 ·generalize hL':(⟨some B',(aX.own e (xs0++q.1) (hs++q.2)).e,(aX.own e (xs0++q.1) (hs++q.2)).len,0⟩:BI)=L;have hg:cJ G (G.put b g' L):=cJ.put (.inl hno);refine⟨λh hh=>?_,hsz2,λi x c y J hy=>?_⟩
  ·rw[ym1,H.len];rcases yn1.1 hh with hh|hh
   ·have:=U h hh;omega
   ·exact(H.ix h hh).2
  ·rcases M J with ⟨V,J⟩|⟨k,rfl,hx'⟩
   ·obtain⟨v,hv,hv1,N⟩:=Y i x c y J hy;refine⟨v,O _ _ (hL J hy hv),hv1,?_⟩;rw[hoL i c V];rcases N with ⟨a,W,ha⟩|⟨W,N,hin⟩
    ·rw[W];exact ha.mono hg Z
    ·rw[W];refine OR.mono hg Z N λX a' m cap K hvv=>?_;obtain⟨⟨z,C,hz,hC,hiz⟩,hne⟩:=hin X a' m cap K hvv;obtain⟨_,k2,_,k4⟩:=hM.inn hz hC hiz;exact⟨.of (hsame X k2 hne),k4⟩
   ·obtain⟨u,hu,hn⟩:=H.cell k c x y hx' hy;refine⟨u,O _ _ (hR hu),h1 u (yt hu),?_⟩;rw[hoR];exact hn.hr hg Z
 ·obtain⟨⟨x,y,row,J,hy,K⟩,W,a',m,cap,I⟩:=V;rcases M J with ⟨V,J⟩|⟨k,rfl,hx'⟩
  ·obtain⟨v,hv,hv1,N⟩:=Y i x c y J hy;rw[O _ _ (hL J hy hv)]at I;rw[hoL i c V]at W;rcases N with ⟨a,ho',ha⟩|⟨_,N,hin⟩
   ·rw[W]at ho';cases ho'
   ·exact(hin X a' m cap ⟨row,K⟩ (ya I)).1
  ·obtain⟨u,hu,hn⟩:=H.cell k c x y hx' hy;rw[O _ _ (hR hu)]at I;rw[hoR]at W;rw[W]at hn;exact absurd (ya I) (hn.out K)
theorem K6{G:Gh}{w:World}{mem:aK}{b:Nat}{K:bG}{B e n:Nat}{xs:List PV}{hs:List (Nat×Nat×AV)}(hM:aI G w mem)(N:mem[b]?=some (some K))(I:K.row= .own e xs hs)(hB:d5 G b K B)(he:1≤e)(hn:n≤xs.length):
  ∃vs0:List Value,vs0.length=n*e/\MV G w mem b e (some B) (xs.take n) hs vs0/\(∀j u,vs0[j]?=some u->cl w B j=some u)/\∀x∈xs.take n,x.cells.length=e:=by
 obtain⟨a0,hl,Z,hmi,hlt,hfr,hr,hpr⟩:=hM.blk N hB;obtain rfl:=Z (by rw[I];rfl);rw[I]at hr;obtain⟨r1,r2,r3⟩:=hr;have hce: ∀{i c:Nat} {x y:PV},xs[i]?=some x->x.cells[c]?=some y->c<e:=λJ V=>by rw[<-r2 _ (yt J)];exact(yd.1 V).1
 refine⟨(List.range (n*e)).map (λj=>(cl w B j).getD undef),by simp,λi x c y J V=>?_,λj u U=>?_,λx N=>r2 x (yu2 N)⟩
 ·have M:i<n:=by have:=(yd.1 J).1;simp at this;omega
  rw[yi1,if_pos M]at J;obtain⟨v,W,hv1,Y⟩:=r3 i x c y J V;refine⟨v,by simp[At (hce J V) M,W],hv1,?_⟩;cases ho:aH i c hs with
  |some a=>rw[ho]at Y;exact .inl ⟨a,rfl,Y⟩
  |none=>
   rw[ho]at Y;refine .inr ⟨rfl,Y,λX a' m cap H hvv=>?_⟩;obtain⟨O,H⟩:=H;have M:cA w B K.row i c X:=by rw[I];exact⟨⟨x,y,O,J,V,H⟩,ho,a',m,cap,by rw[W,hvv]⟩
   exact⟨⟨K,B,N,hB,M⟩,λh=>by
    obtain rfl:=ya h;exact hM.inA b b K K _ i c _ N hB M N hB⟩
 ·have hj:j<n*e:=by have:=(yd.1 U).1;simpa using this
  simp[hj]at U;have M:j/e<n:=by rw[Nat.div_lt_iff_lt_mul (by omega)];exact hj
  have hc:j%e<(xs[j/e]'(by omega)).cells.length:=by rw[r2 _ (yp2 _)];exact Nat.mod_lt _ (by omega)
  obtain⟨v,W,_⟩:=r3 (j/e) _ (j%e) _ (yf (by omega)) (yf hc);rw[show j/e*e+j%e=j by rw[yh2];exact Nat.div_add_mod j e]at W;rw[W]at U⊢
  simp at U;rw[U]
end
end Go.Ab
end
section
namespace Go.Ab
variable [b3]
theorem gH.chunks{G:Gh}{w:World}{cs:List AV}{us:List Value}(h:gH G w cs us){e n k:Nat}{c:List AV}(J:(chunks e n cs)[k]?=some c):gH G w c ((us.drop (k*e)).take e):=by
 have K:k<n:=by have:=(yd.1 J).1;rwa[e9]at this
 rw[yL K]at J;obtain rfl:=ya J;refine⟨by simp[h.1],λj y I=>?_⟩;have H:j<e:=by have:=(yd.1 I).1;simp at this;omega
 rw[yi1,if_pos H,yz]at I;have hj:=(yd.1 I).1;have:=h.2 _ y I;rw[yi,yi1,if_pos H,yz,<-yi];exact this
theorem bH.avs{G:Gh}{w:World}{e:Nat}{cs:List AV}{us:List Value}(h:bH G w (.avs e cs) us):gH G w cs us/\us.length=aP e cs.length*e/\∀u∈us,u.oneCell'=true:=by
 obtain⟨H,M,J,I⟩:=h;refine⟨⟨by rw[H];show cs.length=aP e cs.length*e;rw[yh2];exact J,λj y K=>?_⟩,H,M⟩;obtain⟨u,O,N⟩:=I j y K;rw[yi,O];exact N
theorem Jg{G:Gh}{w:World}{mem:aK}{b:Nat}{row:aX}{vs:List Value}{t:TypeId}(hM:aI G w mem)(M:mem[b]?=some none)(U:1≤row.e)(I:rA G w mem b 0 row none vs):
  ∃N,cJ G N/\Ev G w (w.alloc (.cells vs.toArray t))/\aI N (w.alloc (.cells vs.toArray t)) (mem.set b (some {gen:=0,frz:=false,row}))/\N.loc b 0=some ⟨some w.heap.size,row.e,row.len,0⟩/\
   ∀j u,vs[j]?=some u->cl (w.alloc (.cells vs.toArray t)) w.heap.size j=some u:=by
 have O:G.loc b 0=none:=hM.unset b 0 (λx K=>by rw[M]at K;cases K);have Y:cJ G (G.put b 0 ⟨some w.heap.size,row.e,row.len,0⟩):=cJ.put (.inl O);have J:=Ev.alloc G w (.cells vs.toArray t) hM.away;have H: ∀j u,vs[j]?=some u->cl (w.alloc (.cells vs.toArray t)) w.heap.size j=some u:=λj u V=>by rw[iN];simpa using V
 refine⟨_,Y,J,hM.make M U (I.row _ _ 0 (λ_=>rfl) J (λX hX _=>eH hX) (by simp only[yy];exact H)) (λi c B' W=>?_),Gh.put_self ..,H⟩;obtain⟨x,_,K,_⟩:=I.inn _ _ 0 i c B' (λ_=>rfl) (by simp only[yy];exact H) W;rw[M]at K;cases K
section
variable {P:Program} {G:Gh} {w:World} {mem:aK} {o:Oper} {a:Act} {out:cU}
theorem FF{own:Bool}{t tx ty:TypeId}{rs:Nat}{x y:AV}{cx cy:Value}(hM:aI G w mem)(hrs:mem[rs]?=some none)
  (h:kX P own t tx mem rs x y=some out) (Y:VR G w x cx) (hy:VR G w y cy):
  ∃G' w1 cv,(Builtin.append_ #[t,tx] ty #[cx,cy]).run P w= .ok cv w1/\VR G' w1 out.v cv/\cJ G G'/\Ev G w w1/\aI G' w1 (out.apply mem):=by
 unfold kX at h;rw[bind_some]at h;obtain⟨et,het,h⟩:=h;rw[bind_some]at h;obtain⟨s,hs,h⟩:=h;rw[bind_some]at h;obtain⟨bytes,hby,h⟩:=h;rw[bind_some]at h;obtain⟨z,hz,h⟩:=h;rw[bind_some]at h;obtain⟨ls,hls,h⟩:=h;rw[bind_some]at h;obtain⟨yv,hyv,h⟩:=h;obtain⟨yv1,yrd⟩:=yv;simp only at h;split at h
 ·rename_i e cs;rw[aA]at h;obtain⟨V,h⟩:=h;simp only[yb]at V;obtain⟨⟨⟨⟨⟨⟨g1,g2⟩,g3⟩,g4⟩,g5⟩,g6⟩,g7⟩:=V;obtain rfl:=bI.1 g1;have g3:=cE.1 g3;have g4:=cE.1 g4;have g5:=bI.1 g5;have g6:=bI.1 g6;obtain⟨i,zv0,hE⟩:=Gf het hs hby hz g3 g4 g5;obtain⟨news,U,hnews⟩:=yN hM hyv hy hs g2;obtain⟨hL,hnl,K⟩:=hnews.avs;have hch: ∀(k:Nat) (c:List AV),(chunks s (aP s cs.length) cs)[k]?=some c->gH G w c ((news.drop (k*s)).take s):=λk c hk=>hL.chunks hk;split at h
  ·obtain rfl:=Y.lit_inv;rw[aA]at h;obtain⟨_,h⟩:=h;rw[bind_some]at h;obtain⟨q,hq,h⟩:=h;rw[aA]at h;obtain⟨hml,h⟩:=h;simp only[yb]at hml;obtain rfl:=ya h;have H:=mC g6 hq hch;rw[e9]at H;have O: ∀g,0≤g->G.loc rs g=none:=λg _=>hM.unset rs g (λx Y=>by rw[hrs]at Y;cases Y);have J:=lR (Bold:=none) (xs0:= []) (hs:= []) (vs0:= []) hM (O 0 (ya1 _)) rfl (λx Y=>by cases Y) (by simp) (λi x c y h1=>by simp at h1) H K;simp only[yh3]at J;rw[cZ];exact kC hM (yd.1 hrs).1 O hE U (by have:=cE.1 hml.2;rw[H.len]at this;exact this) rfl H.len J (λ_=>rfl)
  ·rename_i b g;rw[bind_some]at h;obtain⟨Z,hbx,h⟩:=h;obtain⟨hm,hge,hown⟩:=boxO?_some hbx;subst hge;split at h
   ·rename_i e' xs hs' I;rw[bind_some]at h;obtain⟨q,hq,h⟩:=h;rw[aA]at h;obtain⟨V,h⟩:=h;simp only[yb,yq]at V;obtain⟨⟨⟨c1,c2⟩,c3⟩,W⟩:=V;obtain rfl:=bI.1 c2;have W:=cE.1 W;obtain rfl:=ya h;have H:=mC g6 hq hch;rw[e9]at H;rw[cZ];have O:=λg V=>hM.gens b Z g hm V;have N:(xs++q.1).length=xs.length+aP s cs.length:=by rw[ym1,H.len]
    cases Y with
    |msw _ _ cap L B hl hb hn hf=>
     have hB:d5 G b Z B:=⟨L,hl,hb⟩
     obtain⟨a0,M,ha0,_⟩:=hM.blk hm hB;have hLL:=hl;rw[M]at hLL;obtain rfl:=ya hLL;obtain rfl:=ha0 (by rw[I];rfl);obtain⟨vs0,v1,v2,v3,v4⟩:=K6 hM hm I hB g4 (ya1 _);rw[List.take_length]at v2 v4;have J:=lR (g':=Z.gen+1) hM (O _ (yj2 _)) c3 v4 v1 v2 H K;rw[I]at hn hf⊢
     exact yI (row':= .own s (xs++q.1) (hs'++q.2)) hM hm M (λ_=>rfl) c1 hE v1 (by simp only[yy];exact v3) hn hf U rfl N J W
    |mswNil _ _ L hl hb hn=>
     obtain⟨oo,a0,M,ha0,hmm⟩:=(hM.box b Z hm).loc;rw[hl]at M;obtain rfl:=ya M;rw[I]at hn;have hx0:xs= []:=yo hn;subst hx0;have J:=lR (g':=Z.gen+1) (Bold:=none) (xs0:= []) (vs0:= []) hM (O _ (yj2 _)) c3 (λx Y=>by cases Y) (by simp) (λi x c y h1=>by simp at h1) H K;simp only[yh3]at J N W;exact kC (row':= .own s (q.1) (hs'++q.2)) hM (yd.1 hm).1 (λg V=>O g V) hE U (by rw[H.len]at W;exact W) rfl H.len J (λ_=>rfl)
   ·cases h
  ·rename_i b g n;rw[bind_some]at h;obtain⟨Z,hbx,h⟩:=h;obtain⟨hm,hge,hown⟩:=boxO?_some hbx;subst hge;split at h
   ·rename_i e' xs hs' I;rw[bind_some]at h;obtain⟨q,hq,h⟩:=h;rw[aA]at h;obtain⟨V,h⟩:=h;simp only[yb,yq]at V;obtain⟨⟨⟨⟨c1,c2⟩,c0⟩,c3⟩,W⟩:=V;obtain rfl:=bI.1 c2;have W:=cE.1 W;have c0:=cE.1 c0;obtain rfl:=ya h;have H:=mC g6 hq hch;rw[e9]at H;rw[cZ];have O:=λg V=>hM.gens b Z g hm V;have htl:(xs.take n).length=n:=by simp;omega
    have N:(xs.take n++q.1).length=n+aP s cs.length:=by rw[ym1,H.len,htl]
    cases Y with
    |ms _ _ _ _ cap L B hl hb hn hon hf=>
     have hB:d5 G b Z B:=⟨L,hl,hb⟩
     obtain⟨a0,M,ha0,_⟩:=hM.blk hm hB;have hLL:=hl;rw[M]at hLL;obtain rfl:=ya hLL;obtain rfl:=ha0 (by rw[I];rfl);obtain⟨vs0,v1,v2,v3,v4⟩:=K6 hM hm I hB g4 c0;have J:=lR (g':=Z.gen+1) hM (O _ (yj2 _)) (by rw[htl];exact c3) v4 (by rw[htl];exact v1) v2 (by rw[htl];exact H) K;simp only[yy]at hf;rw[I]at hf;simp only[yx2];exact yI (row':= .own s (xs.take n++q.1) (hs'++q.2)) hM hm M (λ_=>rfl) c1 hE v1 (by simp only[yy];exact v3) hn (by rw[yy];exact hf) U rfl N J W
    |msNil _ _ L hl hb=>
     obtain⟨oo,a0,M,ha0,hmm⟩:=(hM.box b Z hm).loc;rw[hl]at M;obtain rfl:=ya M;simp only[List.take_zero,yh3]at N W hq⊢
     have J:=lR (g':=Z.gen+1) (Bold:=none) (xs0:= []) (vs0:= []) hM (O _ (yj2 _)) c3 (λx Y=>by cases Y) (by simp) (λi x c y h1=>by simp at h1) H K;simp only[yh3]at J;exact kC (row':= .own s (q.1) (hs'++q.2)) hM (yd.1 hm).1 (λg V=>O g V) hE U (by rw[H.len]at W;exact W) rfl H.len J (λ_=>rfl)
    |msZ _ _ _ B oo L hl hb ho hon=>omega
   ·cases h
  ·cases h
 ·cases h
theorem BW{t:TypeId}{rs:Nat}{x:Operand}(hM:aI G w mem)(hm:mem[rs]?=some none)(W:x= .const (.slice none 0 0))(K:execOp a.eval o=pure (Next.value (a.eval x)))(h:Ge P t rs=some out):nO P G w mem o a out:=by
 unfold Ge at h;rw[bind_some]at h;obtain⟨et,V,h⟩:=h;rw[bind_some]at h;obtain⟨e,M,h⟩:=h;rw[aA]at h;obtain⟨H,h⟩:=h;obtain rfl:=ya h;have H:=cE.1 H;subst W;obtain⟨N,O,U,I⟩:=AB (b:=rs) (g':=0) (row':= .own e [] []) hM (yd.1 hm).1 (λg _=>hM.unset rs g (λy J=>by rw[hm]at J;cases J)) H rfl rfl;refine jK.opW ⟨N,w,.value (a.eval (.const (.slice none 0 0))),_,by rw[K];simp,.inl rfl,?_,O,Ev.refl G w,by simpa[cU.apply,aM]using I⟩;exact .mswNil rs 0 _ U rfl rfl
theorem Iy{ρ:Operand->Option AV}{rs:Nat}{t:TypeId}{l c:Operand}(hM:aI G w mem)(hrs:mem[rs]?=some none)(hρ:MW G w ρ a)(h:Gn P ρ mem rs t l c=some out):
  ∃W w' cv,(Instr.makeSlice t (a.eval l) (a.eval c)).run P w= .ok cv w'/\VR W w' out.v cv/\cJ G W/\Ev G w w'/\aI W w' (out.apply mem):=by
 unfold Gn at h;rw[bind_some]at h;obtain⟨et,het,h⟩:=h;rw[bind_some]at h;obtain⟨z,hz,h⟩:=h;rw[bind_some]at h;obtain⟨vl,hl,h⟩:=h;rw[bind_some]at h;obtain⟨vc,hc,h⟩:=h;rw[bind_some]at h;obtain⟨ls,hls,h⟩:=h;split at h
 ·rename_i k1 n k2 n';rw[aA]at h;obtain⟨hg,h⟩:=h;simp only[yb,beq_iff_eq,decide_eq_true_eq]at hg;obtain⟨⟨hnn,hn0⟩,J⟩:=hg;subst hnn;have J:=cE.1 J;rw[bind_some]at h;obtain⟨q,hq,h⟩:=h;rw[bind_some]at h;obtain⟨p,hp,h⟩:=h;rw[bind_some]at h;obtain⟨e,he,h⟩:=h;rw[bind_some]at h;obtain⟨bytes,N,h⟩:=h;rw[aA]at h;obtain⟨hg,h⟩:=h;simp only[yb]at hg;obtain⟨⟨⟨⟨g1,g2⟩,g3⟩,g5⟩,g4⟩:=hg;have g1:=cE.1 g1;have g2:=cE.1 g2;have g3:=bI.1 g3;have g4:q.2= []:=by cases hh:q.2 with|nil=>rfl|cons _ _=>rw[hh]at g4;cases g4
  obtain⟨i,H,hi,hzv,hov⟩:=jE hz;have O:VR G w z H:=kD hov;have el:=(hρ _ _ hl).lit_inv;have ec:=(hρ _ _ hc).lit_inv;obtain⟨m,rfl⟩: ∃m:Nat,n=(m:Int):=⟨n.toNat,by omega⟩
  rw[yj3]at J h;obtain rfl:=ya h;have his:i.size=e:=by unfold gW at he;rw[hi]at he;simpa using he
  have hib:i.bytes≤4096:=by unfold iQ at N;rw[hi]at N;simp at N;omega
  have U:H.cells.size=e:=by rw[<-g3];simpa using O.cells.1.symm
  obtain⟨a1,a2,a3⟩:=Bg hq O.cells;have hpc:=BU hp (λk y hy=>by obtain⟨_,_,_,h⟩:=a3 k y hy;exact h);have hno:G.loc rs 0=none:=hM.unset rs 0 (λx M=>by rw[hrs]at M;cases M);have hfl: ∀k c,k<m->c<e->(flat (List.replicate m H))[k*e+c]?=H.cells.toList[c]?:=λk c Y hc=>oC (λu K=>by rw[(yg2.1 K).2];exact U) (by rw[ya2,if_pos Y]) hc;have Z: ∀u∈flat (List.replicate m H),u.oneCell'=true:=by
   intro u K;obtain⟨z',hz',K⟩:=H8 K;rw[(yg2.1 hz').2]at K;obtain⟨j,hj,rfl⟩:=yw1 K;exact O.cells.ones g5 _ (yp2 hj)
  have hne:HM G w e ([]:List PV).length m (flat (List.replicate m H)) (List.replicate m p,[]):=by
   refine⟨by simp,λx M=>(nomatch M),λx M=>?_,λk c p' y V hy=>?_⟩
   ·rw[(yg2.1 M).2,hpc,a1,g3]
   ·have Y:k<m:=by have:=(yd.1 V).1;simpa using this
    simp only[ya2,if_pos Y,Option.some.injEq]at V;subst V;rw[hpc]at hy;obtain⟨u,K,hn,_⟩:=a3 c y hy;have hce:c<e:=by rw[<-g3,<-a1];exact(yd.1 hy).1
    rw[g4]at hn;exact⟨u,by rw[hfl k c Y hce];exact K,hn⟩
  have hok:=lR (Bold:=none) (xs0:= []) (hs:= []) (vs0:= []) hM hno rfl (λx M=>by cases M) (by simp) (λi x c y h1=>by simp at h1) hne Z;simp only[yh3]at hok;obtain⟨W,hg',hev,hM',hl',hcl⟩:=Jg (t:=et) (row:= .own e (List.replicate m p) []) hM hrs g1 hok;have hfit:=qY J hib;have I:=run_make (P:=P) w t et i H (lZ het) hi hzv k1 k2 m m (by omega) (Int.le_refl _) (by
    have h:((m*i.bytes:Nat):Int)≤281474976710656:=by omega
    rw[Int.natCast_mul,Int.mul_comm]at h;exact h) (by unfold bF at J;omega)
  simp only[yj3]at I;have hc':madeCells H.cells (m*i.size)=(flat (List.replicate m H)).toArray:=by
   have:=iG H.cells (by omega) m;rw[<-yf2 (xs:=madeCells H.cells (m*i.size)),eN,<-this,his];simp only[madeCells,U]
  rw[hc']at I;rw[el,ec];refine⟨W,_,_,I,?_,hg',hev,by rw[cZ];exact hM'⟩;have Y:VR W (w.alloc (.cells (flat (List.replicate m H)).toArray et)) (.msw rs 0) (.slice (some ⟨w.heap.size,0,none⟩) (aX.own e (List.replicate m p) []).len m):=by
   refine .msw rs 0 m _ w.heap.size hl' rfl (by simp[aX.len]) (λj hj=>?_);simp only[aX.e]at hj;have hj2:j<(flat (List.replicate m H)).length:=by rw[fP (e:=e) (λu K=>by rw[(yg2.1 K).2];exact U)];simpa using hj
   rw[hcl j _ (yf hj2)];rfl
  simpa[aX.len]using Y
 ·cases h
theorem Hm{ρ:Operand->Option AV}{rs:Nat}{t:TypeId}{len:Nat}{I:Array (Nat×Operand)}(hM:aI G w mem)(hrs:mem[rs]?=some none)(hρ:MW G w ρ a)(h:Ba P ρ mem rs t len I=some out):
  ∃G' w' cv,(Instr.buildSlice t len (I.map λp=>(p.1,a.eval p.2))).run P w= .ok cv w'/\VR G' w' out.v cv/\cJ G G'/\Ev G w w'/\aI G' w' (out.apply mem):=by
 unfold Ba at h;rw[bind_some]at h;obtain⟨et,het,h⟩:=h;rw[bind_some]at h;obtain⟨z,hz,h⟩:=h;rw[bind_some]at h;obtain⟨s,hs,h⟩:=h;rw[bind_some]at h;obtain⟨ps,hps,h⟩:=h;rw[bind_some]at h;obtain⟨ls,hls,h⟩:=h;rw[aA]at h;obtain⟨hg,h⟩:=h;rw[bind_some]at h;obtain⟨q,hq,h⟩:=h;rw[aA]at h;obtain⟨M,h⟩:=h;obtain rfl:=ya h;simp only[yb]at hg;obtain⟨⟨⟨⟨⟨⟨g1,g2⟩,g3⟩,g4⟩,g5⟩,g6⟩,g7⟩:=hg;have g2:=cE.1 g2;have g3:=cE.1 g3;have g4:=cE.1 g4;have g6:=bI.1 g6;have g7:=cE.1 g7;have hp:=wR hρ hps;generalize (I.map λp=>(p.1,a.eval p.2))=qs at hp⊢
 have hu:=lZ het;obtain⟨i,H,hi,hzv,hov⟩:=jE hz;have K:i.size=s:=by unfold gW at hs;rw[hi]at hs;simpa using hs
 have hzr:VR G w z H:=kD hov;have hsz:=rT g5;have W:H.cells.size=s:=by rw[<-hsz z (ym ..)];simpa using hzr.cells.1.symm
 have hL0:gH G w (List.replicate len z) (List.replicate len H):=by
  refine⟨by simp,λj y hy=>?_⟩;obtain⟨N,rfl⟩:j<len/\z=y:=by
   have Z:=(yd.1 hy)
   obtain⟨Z,h2⟩:=Z;simp at Z h2;exact⟨Z,h2⟩
  rw[yi,ya2,if_pos N];exact hzr
 have hL:=x7 hL0 hp;have hqs: ∀q∈qs.toList,q.2.cells.size=s/\q.1<(List.replicate len H).length:=by
  intro q hq;obtain⟨j,N,rfl⟩:=yw1 hq;have J:j<ps.length:=by rw[hp.1];exact N
  obtain⟨v,hv,Y⟩:=hp.2 j _ (yf J);rw[yf N]at hv;have hqe:=ya hv;rw[hqe];refine⟨?_,by simp only[List.length_replicate];exact rE g1 _ (yp2 J)⟩;rw[<-hsz (ps[j].2) (yg _ (yq2.2 ⟨_,yp2 J,rfl⟩))];simpa using Y.cells.1.symm
 have hz1: ∀u∈List.replicate len H,u.cells.size=s:=λu hu=>by rw[(yg2.1 hu).2];exact W
 have U:=nI hz1 (λq h=>(hqs q h).1);have hlen:(lQ (List.replicate len z) ps).length=len:=by rw[nQ];simp
 have hone: ∀u∈flat (eZ (List.replicate len H) qs.toList),u.oneCell'=true:=(p0 hL).ones M;have O:HM G w s ([]:List PV).length len (flat (eZ (List.replicate len H) qs.toList)) q:=by
  have:=mC g6 hq (us:=flat (eZ (List.replicate len H) qs.toList)) (λk cs hk=>by
   rw[yc1]at hk;obtain⟨v,hv,rfl⟩:=yc.1 hk;obtain⟨u,hu,Y⟩:=hL.get hv;have:((flat (eZ (List.replicate len H) qs.toList)).drop (k*s)).take s=u.cells.toList:=by
    have hcs:=U u (yt hu);apply List.ext_getElem?;intro c;rw[yi1];by_cases hc:c<s
    ·rw[if_pos hc,yz,oC U hu hc]
    ·rw[if_neg hc,yb1 (by simp[hcs];omega)]
   rw[this];exact Y.cells)
  rw[ye1,hlen]at this;exact this
 have hno:G.loc rs 0=none:=hM.unset rs 0 (λx hx=>by rw[hrs]at hx;cases hx);have hok:=lR (Bold:=none) (xs0:= []) (hs:= []) (vs0:= []) hM hno rfl (λx hx=>by cases hx) (by simp) (λi x c y Z=>by simp at Z) O hone;simp only[yh3]at hok;obtain⟨G',hg',hev,hM',hl',hcl⟩:=Jg (t:=et) (row:= .own s q.1 q.2) hM hrs g3 hok;have hlt:len*s≤16777216:=yc2 (Nat.mul_le_mul g2 g4) (by decide);have hpos:0<len*s:=Nat.mul_pos (by omega) (by omega);have hc0:((Array.range (len*i.size)).map (H.cells[· %H.cells.size]!)).toList=flat (List.replicate len H):=by
  rw[K,eN];have:=iG H.cells (by omega) len;rw[W]at this;rw[W];exact this
 obtain⟨c',hf,hc'⟩:=Ay hc0 hz1 hqs;have V:c'=(flat (eZ (List.replicate len H) qs.toList)).toArray:=by rw[<-hc']
 refine⟨G',_,_,run_buildSlice w t et len qs c' i H hu hi hzv (by rw[K];omega) (by rw[K];omega) (by rw[K]at hf⊢;exact hf),?_,hg',by rw[V];exact hev,by rw[cZ,V];exact hM'⟩;rw[V];have hk:VR G' (w.alloc (.cells (flat (eZ (List.replicate len H) qs.toList)).toArray et)) (.msw rs 0) (.slice (some ⟨w.heap.size,0,none⟩) (aX.own s q.1 q.2).len len):=by
  refine .msw rs 0 len _ w.heap.size hl' rfl (by simp only[aX.len];rw[O.len];exact ya1 _) (λj N=>?_);simp only[aX.e]at N;have J:j<(flat (eZ (List.replicate len H) qs.toList)).length:=by rw[fP (e:=s) U,rB];simpa using N
  rw[hcl j _ (yf J)];rfl
 simp only[aX.len]at hk;rw[O.len]at hk;exact hk
theorem D9{own:Bool}{b:Builtin}{ts:Array TypeId}{ty:TypeId}{consts:Array Bool}{rs:Nat}{args:List AV}{vs:Array Value}(hM:aI G w mem)(O:b= .append->mem[rs]?=some none)
  (h:j4 P own b ts.toList mem rs args=some out) (K:nH G w args vs):
  ∃s:Sem Value,builtin b ts ty consts vs=(do pure (Next.value (<-s)))/\∃N M cv,s.run P w= .ok cv M/\VR N M out.v cv/\cJ G N/\Ev G w M/\aI N M (out.apply mem):=by
 unfold j4 at h;split at h
 ·rename_i t x I;have H:ts= #[t]:=by rw[<-I,yf2]
  obtain⟨x',rfl⟩:=OZ K.1.symm;have J:=K.2 0 x rfl;simp at J;subst H;obtain⟨V,Y,n,hn,⟨e,W⟩,ad,cap,rfl⟩:=JP (ty:=ty) hM h J;exact⟨_,rfl,G,w,.int .i64 (n:Int),by simp[Builtin.len_,Builtin.lenOf,run_underlying W,goInt],by rw[hn];exact .lit _ rfl,cJ.refl G,Ev.refl G w,by simpa only[cU.apply,V,Y,aM,yg1]using hM⟩
 ·rename_i t Z x y I;have H:ts= #[t,Z]:=by rw[<-I,yf2]
  obtain⟨x',y',rfl⟩:=O9 K.1.symm;have J:=K.2 0 x rfl;have U:=K.2 1 y rfl;simp at J U;subst H;exact⟨_,rfl,FF hM (O rfl) h J U⟩
 ·cases h
theorem MB{own tk:Bool}{ρ:Operand->Option AV}{rs:Nat}(hM:aI G w mem)(N:dJ o.op=true->mem[rs]?=some none)(K:MW G w ρ a)(I:bJ own ρ mem o.op=true)
  (h:Fw P own tk o ρ mem rs=some out):nO P G w mem o a out:=by
 unfold Fw at h;split at h
 ·rename_i x H;rw[H]at I;simp only[bJ,yb]at I;exact BW hM (N (by rw[H];exact I.2)) (AA I.2) (by simp only[execOp,H]) h
 ·rename_i x H;rw[H]at I;simp only[bJ,yb]at I;exact BW hM (N (by rw[H];exact I.2)) (AA I.2) (by simp only[execOp,H]) h
 ·rename_i t len parts H;exact nO.value (by simp only[execOp,H]<;>rfl) (Hm hM (N (by rw[H];rfl)) K h)
 ·rename_i t l c H;exact nO.value (by simp only[execOp,H]<;>rfl) (Iy hM (N (by rw[H];rfl)) K h)
 ·rename_i t x H;rw[bind_some]at h;obtain⟨v,hv,h⟩:=h;obtain⟨G',cv,J,M,hg,U⟩:=Jc hM h (K _ _ hv);exact nO.value (by simp only[execOp,H]<;>rfl) ⟨G',w,cv,J,M,hg,Ev.refl G w,U⟩
 ·rename_i t x y H;rw[bind_some]at h;obtain⟨vx,V,h⟩:=h;rw[bind_some]at h;obtain⟨vy,hy,h⟩:=h;obtain⟨hov,w',J,Z,U⟩:=Hp hM h (K _ _ V) (K _ _ hy);refine jK.opW ⟨G,w',.skip,undef,?_,.inr ⟨rfl,rfl⟩,by rw[hov];exact .lit _ rfl,cJ.refl G,Z,U⟩;simp only[execOp,H,Sem.run_bind,J,Result.andThen_ok,Sem.run_pure]
 ·rename_i t x lo hi mx H;rw[bind_some]at h;obtain⟨vx,V,h⟩:=h;rw[bind_some]at h;obtain⟨vl,hl,h⟩:=h;rw[bind_some]at h;obtain⟨vh,hh,h⟩:=h;rw[bind_some]at h;obtain⟨vm,hm,h⟩:=h;obtain⟨Y,h2,cv,J,M⟩:=GN hM h (K _ _ V) (lK K hl) (lK K hh) (lK K hm);exact nO.still hM (by simp only[execOp,H]<;>rfl) Y h2 J M
 ·rename_i t x ix H;rw[bind_some]at h;obtain⟨vx,V,h⟩:=h;rw[bind_some]at h;obtain⟨vi,hi,h⟩:=h;split at h
  ·rename_i k i;have ei:=(K _ _ hi).lit_inv;obtain⟨Y,h2,cv,J,M⟩:=HF (k:=k) hM h (K _ _ V);exact nO.still hM (by simp only[execOp,H]<;>rfl) Y h2 (by rw[ei];exact J) M
  ·cases h
 ·rename_i c H;rw[bind_some]at h;obtain⟨args,O,h⟩:=h;have W:=zA K O;split at h
  ·rename_i b hc;obtain⟨s,hs,hh⟩:=D9 (ty:=o.type) (consts:=c.args.map fun| .const _=>true|_=>false) hM (λhb=>N (by rw[H];subst hb;unfold dJ;obtain⟨cc,_,_⟩:=c;simp only at hc;subst hc;rfl)) h W;refine nO.value (s:=s) ?_ hh;rw[<-hs];simp only[execOp,H,resolve,hc,invoke];rfl
  ·cases h
 ·cases h
theorem L4{C:bM}{own tk boxed raw vars:Bool}{ρ:Operand->Option AV}{rs:Nat}(hM:aI G w mem)(I:dJ o.op=true->mem[rs]?=some none)(N:MW G w ρ a)
  (H: ∀{raw keep:Bool} {g:FuncId} {ts:List TypeId} {K args U:List AV} {out:cU} {M O cv:Array Value},vQ P C raw keep g ts K args U mem=some out->nH G w K M->nH G w args O->nH G w U cv->Kg P G w mem g (M++O++cv) out)
  (h:Fy P C own tk boxed raw vars o ρ mem rs=some out):nO P G w mem o a out:=by
 unfold Fy at h;cases J:bJ own ρ mem o.op with
 |true=>rw[J]at h;exact MB hM I N J h
 |false=>rw[J]at h;exact LM hM I N H h
end
end Go.Ab
end
section
namespace Go.Ab
variable [b3]
theorem eI(f:i7): ∀cs:List AV,AV.renAll f cs=cs.map (·.ren f)
 | []=>by simp[AV.renAll]
 |c::cs=>by simp[AV.renAll,eI f cs]
theorem iE: ∀{cs:List AV} {j:Nat} {y:AV},cs[j]?=some y->y.lent=true->AV.lentAny cs=true
 | [],j,y,h,_=>by simp at h
 |c::cs,0,y,h,H=>by simp at h;subst h;simp[AV.lentAny,H]
 |c::cs,j+1,y,h,H=>by simp[AV.lentAny,iE (cs:=cs) (j:=j) (by simpa using h) H]
def Cb(G G2:Gh)(f:i7):Prop:= ∀b g q L,f b g=some q->G.loc b g=some L->G2.loc q.1 q.2=some L
theorem oS{f:i7}{cs:List AV}{j:Nat}{y:AV}(h:(AV.renAll f cs)[j]?=some y): ∃x,cs[j]?=some x/\y=x.ren f:=by
 rw[eI,yc1]at h;obtain⟨x,H,rfl⟩:=yc.1 h;exact⟨x,H,rfl⟩
theorem VR.ren{G W:Gh}{w:World}{f:i7}{l:Bool}(hr:Cb G W f)(hp: ∀β B o,(β=true->l=true)->G.prot β B o->W.prot β B o){a:AV}{v:Value}(h:VR G w a v):
  (a.lent=true->l=true)->VR W w (a.ren f) v:=by
 induction h with
 |lit v h=>intro _;simp only[AV.ren];exact .lit v h
 |imm β p v h hs=>intro H;simp only[AV.ren];exact .imm β p v (h.mono (λB o I=>hp β B o (λe=>H (by simp[AV.lent,e])) I) (λ_ _ _=>rfl)) hs
 |unkB b=>intro _;simp only[AV.ren];exact .unkB b
 |dead v Z h2=>intro _;simp only[AV.ren];exact .dead v Z h2
 |ptr b g i c L B H I=>
  intro _;simp only[AV.ren];split
  ·rename_i q N;exact .ptr q.1 q.2 i c L B (hr b g q L N H) I
  ·exact .dead _ rfl rfl
 |ms b g o n cap L B H I hn O V=>
  intro _;simp only[AV.ren];split
  ·rename_i q N;exact .ms q.1 q.2 o n cap L B (hr b g q L N H) I hn O V
  ·exact .dead _ rfl rfl
 |msNil b g L H I=>
  intro _;simp only[AV.ren];split
  ·rename_i q N;exact .msNil q.1 q.2 L (hr b g q L N H) I
  ·exact .dead _ rfl rfl
 |msZ b g o B oo L H I ho O=>
  intro _;simp only[AV.ren];split
  ·rename_i q N;exact .msZ q.1 q.2 o B oo L (hr b g q L N H) I ho O
  ·exact .dead _ rfl rfl
 |msw b g cap L B H I hn V=>
  intro _;simp only[AV.ren];split
  ·rename_i q N;exact .msw q.1 q.2 cap L B (hr b g q L N H) I hn V
  ·exact .dead _ rfl rfl
 |mswNil b g L H I hn=>
  intro _;simp only[AV.ren];split
  ·rename_i q N;exact .mswNil q.1 q.2 L (hr b g q L N H) I hn
  ·exact .dead _ rfl rfl
 |el β p c B o cv h hr'=>
  intro H;simp only[AV.ren];have U: ∀B o,G.prot β B o->W.prot β B o:=λB o I=>hp β B o (λe=>H (by simp[AV.lent,e])) I;exact .el β p c B o cv (λj y J=>⟨(h j y J).1,U _ _ (h j y J).2⟩) (λj y J=>(hr' j y J).mono U (λ_ _ _=>rfl))
 |fn f' fi ca fv cv Z h2 V hc ihf ihc=>
  intro H;simp only[AV.ren];refine .fn f' _ _ fv cv (by rw[eI];simpa using Z) (by rw[eI];simpa using h2) (λj y J=>?_) (λj y J=>?_)
  ·obtain⟨x,M,rfl⟩:=oS J;exact ihf j x M (λe=>H (by simp[AV.lent,iE M e]))
  ·obtain⟨x,M,rfl⟩:=oS J;exact ihc j x M (λe=>H (by simp[AV.lent,iE M e]))
 |agg cs cvs K h Y=>
  intro H;simp only[AV.ren];refine .agg _ cvs (by rw[eI];simpa using K) (λj y J=>?_);obtain⟨x,M,rfl⟩:=oS J;exact Y j x M (λe=>H (by simp[AV.lent,iE M e]))
 |tup cs cvs K h Y=>
  intro H;simp only[AV.ren];refine .tup _ cvs (by rw[eI];simpa using K) (λj y J=>?_);obtain⟨x,M,rfl⟩:=oS J;exact Y j x M (λe=>H (by simp[AV.lent,iE M e]))
def pH:aX->Bool
 | .cells _ cs=>AV.lentAny cs
 | .pvs β _ _=>β
 | .ints _ _=>false
 | .own _ _ hs=>j5 hs
theorem mX: ∀{mem:aK} {b:Nat} {x:bG},mem[b]?=some (some x)->pH x.row=true->gA mem=true
 | [],b,x,h,_=>by simp at h
 |some y::m,0,x,h,H=>by
  simp at h;subst h;obtain⟨g,fz,row⟩:=y;cases row<;>simp_all[gA,pH]
 |none::m,0,x,h,H=>by simp at h
 |some y::m,b+1,x,h,H=>by simp[gA,mX (mem:=m) (b:=b) (by simpa using h) H]
 |none::m,b+1,x,h,H=>by simp only[gA];exact mX (mem:=m) (b:=b) (by simpa using h) H
theorem lG(f:i7)(r:aX):(r.ren f).e=r.e:=by cases r<;>rfl
theorem h8(f:i7)(r:aX):(r.ren f).len=r.len:=by cases r<;>simp[aX.ren,aX.len,eI]
theorem cT(f:i7)(r:aX):(r.ren f).isCells=r.isCells:=by cases r<;>rfl
theorem o6(f:i7)(r:aX):(r.ren f).isInts=r.isInts:=by cases r<;>rfl
theorem mU(f:i7){i c:Nat}: ∀{hs:List (Nat×Nat×AV)},aH i c (mW f hs)=(aH i c hs).map (·.ren f)
 | []=>rfl
 |(i',c',v)::r=>by
  simp only[mW,aH];split
  ·rfl
  ·exact mU f
theorem Iz{y:PV}{β:Bool}{e:Nat}{xs:List PV}(h:cH y=some (.pvs β e xs)):β=false:=by
 cases y with
 |ints k H=>cases h
 |sl e H=>simp only[cH]at h;rw[aA]at h;obtain⟨_,h⟩:=h;cases h;rfl
 |lit u=>cases h
 |agg cs=>cases h
theorem BL(f:i7): ∀{hs:List (Nat×Nat×AV)} {x:Nat×Nat×AV},x∈mW f hs->∃y∈hs,x.1=y.1
 | [],x,h=>by cases h
 |(i',c',v)::r,x,h=>by
  simp only[mW]at h;rcases yl1.1 h with rfl|h
  ·exact⟨_,ym ..,rfl⟩
  ·obtain⟨y,H,I⟩:=BL f h;exact⟨y,yg _ H,I⟩
theorem yS: ∀{hs:List (Nat×Nat×AV)} {i c:Nat} {a:AV},aH i c hs=some a->a.lent=true->j5 hs=true
 | [],i,c,a,h,_=>by cases h
 |(i',c',v)::r,i,c,a,h,H=>by
  simp only[aH]at h;simp only[j5,yu1];split at h
  ·obtain rfl:=ya h;exact .inl H
  ·exact .inr (yS h H)
theorem cA.ren{w:World}{B:Nat}{f:i7}{r:aX}{i c B':Nat}:cA w B (r.ren f) i c B'↔cA w B r i c B':=by
 cases r with
 |own e xs hs=>
  constructor
  ·rintro⟨J,H,I⟩;rw[mU,Option.map_eq_none_iff]at H;exact⟨J,H,I⟩
  ·rintro⟨J,H,I⟩;exact⟨J,by rw[mU,H];rfl,I⟩
 |_=>exact Iff.rfl
theorem fN.ren{G U:Gh}{w:World}{f:i7}{l:Bool}(hr:Cb G U f)(W: ∀β B o,(β=true->l=true)->G.prot β B o->U.prot β B o){B a:Nat}{r:aX}(h:fN G w B a r)(hl:pH r=true->l=true)
  (hin: ∀i c B',cA w B r i c B'->U.mine B'/\∀β o,¬U.prot β B' o):fN U w B a (r.ren f):=by
 cases r with
 |ints k xs=>exact h
 |pvs β e xs=>exact⟨h.1,λi x c y H J=>by obtain⟨v,M,O,N⟩:=h.2 i x c y H J;exact⟨v,M,O,N.mono (λB o Z=>W β B o (λe=>hl (by simp[pH,e])) Z) (λ_ _ _=>rfl)⟩⟩
 |cells e cs=>
  refine⟨by simpa[eI]using h.1,λj y J=>?_⟩;obtain⟨x,H,rfl⟩:=oS J;obtain⟨v,M,O,N⟩:=h.2 j x H;exact⟨v,M,O,N.ren hr W (λe=>hl (by simp[pH,iE H e]))⟩
 |own e xs hs=>
  obtain⟨M,O,N⟩:=h;refine⟨λx H=>by obtain⟨y,J,he⟩:=BL f H;rw[he];exact M y J,O,λi x c y H J=>?_⟩;obtain⟨v,hv,hv1,K⟩:=N i x c y H J;refine⟨v,hv,hv1,?_⟩;rw[mU];cases Y:aH i c hs with
  |some a=>rw[Y]at K;exact VR.ren hr W K (λe=>hl (by simp only[pH];exact yS Y e))
  |none=>
   rw[Y]at K;rcases K with K|⟨row,I,K⟩
   ·exact .inl K
   ·refine .inr ⟨row,I,?_⟩;rcases K with K|⟨B',a',cap,rfl,ka,k1,k2,k3,k4,k5,V,k7⟩
    ·exact .inl K
    ·obtain⟨m1,m2⟩:=hin i c B' ⟨⟨x,y,row,H,J,I⟩,Y,_,_,_,hv⟩;refine .inr ⟨B',a',cap,rfl,ka,k1,k2,m1,k4,k5,?_,m2⟩;cases row with
     |ints k xs=>exact V
     |pvs β e xs=>
      refine⟨V.1,λi x c y H J=>?_⟩;obtain⟨v,M,O,N⟩:=V.2 i x c y H J;refine⟨v,M,O,N.mono (λB o Z=>W β B o (λe=>?_) Z) (λ_ _ _=>rfl)⟩;subst e;have:=Iz I;cases this
     |cells e cs=>cases V
     |own e xs hs=>cases V
theorem y4: ∀{ids:List Nat} {b n j:Nat},sC b ids n=some j->∃i,j=n+i/\ids[i]?=some b
 | [],b,n,j,h=>by simp[sC]at h
 |m::r,b,n,j,h=>by
  simp only[sC]at h;cases H:Nat.beq m b with
  |true=>rw[H]at h;simp at h;subst h;exact⟨0,rfl,by simp[bI.1 H]⟩
  |false=>
   rw[H]at h;simp only[yj]at h;obtain⟨i,rfl,I⟩:=y4 h;exact⟨i+1,by omega,by simpa using I⟩
theorem pI: ∀{ids:List Nat} {i j b:Nat},dB ids=true->ids[i]?=some b->ids[j]?=some b->i=j
 | [],i,j,b,_,h,_=>by simp at h
 |m::r,i,j,b,hn,I,J=>by
  simp only[dB,yb,yq]at hn;have H: ∀k:Nat,r[k]?=some m->False:=λk K=>by
   have:=n4.2 (yt K);rw[this]at hn;simp at hn
  cases i with
  |zero=>
   cases j with
   |zero=>rfl
   |succ j=>simp at I J;subst I;exact(H j J).elim
  |succ i=>
   cases j with
   |zero=>simp at I J;subst J;exact(H i I).elim
   |succ j=>rw[pI (ids:=r) (i:=i) (j:=j) hn.2 (by simpa using I) (by simpa using J)]
def q6(m:Nat)(keep:Bool)(G:Gh)(mem:aK)(ids:List Nat):Nat->Nat->Option BI:=λj g=>(ids[j]?).bind λb=>(mR mem b).bind λh=>if g=eY m keep (j3 mem b) j h then G.loc b h else if j<m/\g=0 then G.loc b 0 else none
theorem jF{mem:aK}{b g:Nat}:mR mem b=some g↔∃x,mem[b]?=some (some x)/\x.gen=g:=by
 unfold mR;split
 ·rename_i x J;constructor
  ·intro h;exact⟨x,J,by simpa using h⟩
  ·rintro⟨y,H,rfl⟩;rw[J]at H;simp at H;subst H;rfl
 ·rename_i I;constructor
  ·intro h;simp at h
  ·rintro⟨y,H,_⟩;exact absurd H (I y)
theorem kU{mem:aK}{b:Nat}{x:bG}(h:mem[b]?=some (some x)):j3 mem b=x.row.isCells:=by unfold j3;rw[h]
theorem Kb{m:Nat}{keep:Bool}{mem:aK}{ids:List Nat}{b g:Nat}{q:Nat×Nat}(h:eU m keep mem ids b g=some q): ∃j,q=(j,eY m keep (j3 mem b) j g)/\ids[j]?=some b/\mR mem b=some g:=by
 unfold eU at h;split at h
 ·rename_i I J;cases H:Nat.beq I g with
  |false=>rw[H]at h;simp at h
  |true=>
   rw[H]at h;simp only[yl]at h;obtain⟨j,M,rfl⟩:=yc.1 h;obtain⟨i,rfl,K⟩:=y4 M;rw[<-bI.1 H];exact⟨i,by simp,K,J⟩
 ·simp at h
theorem Ep{m:Nat}{keep:Bool}{G H:Gh}{mem:aK}{ids:List Nat}(J:H.loc=q6 m keep G mem ids):Cb G H (eU m keep mem ids):=by
 intro b g q L K hL;obtain⟨j,rfl,M,I⟩:=Kb K;rw[J];simp[q6,M,I,hL]
theorem d8(m:Nat)(keep:Bool)(f:i7)(mem:aK): ∀(ids:List Nat) (n j:Nat),(dN m keep f mem n ids)[j]?=(ids[j]?).map λb=>match mem[b]? with|some (some x)=>some {gen:=eY m keep x.row.isCells (n+j) x.gen,frz:=x.frz,row:=x.row.ren f}|_=>none
 | [],n,j=>by simp[dN]
 |b::r,n,0=>by simp only[dN,yo2,yh,yk1];rfl
 |b::r,n,j+1=>by simp only[dN,yd1];rw[d8 m keep f mem r (n+1) j];simp only[show n+1+j=n+(j+1) by omega]
theorem c7{m:Nat}{keep:Bool}{f:i7}{mem:aK}{ids:List Nat}{j:Nat}{y:bG}(h:(dN m keep f mem 0 ids)[j]?=some (some y)):
  ∃b x,ids[j]?=some b/\mem[b]?=some (some x)/\y={gen:=eY m keep x.row.isCells j x.gen,frz:=x.frz,row:=x.row.ren f}:=by
 rw[d8]at h;obtain⟨b,I,h⟩:=yc.1 h;split at h
 ·rename_i x H;exact⟨b,x,I,H,by simpa using h.symm⟩
 ·simp at h
theorem Fp{m:Nat}{keep:Bool}{G N:Gh}{w:World}{mem:aK}{ids:List Nat}(hM:aI G w mem)(hn:dB ids=true)(K:N.loc=q6 m keep G mem ids)(hp: ∀β B o,G.prot β B o->N.prot β B o)
  (hnp: ∀(b:Nat) (x:bG) (B:Nat),b∈ids->mem[b]?=some (some x)->x.frz=false->d5 G b x B->∀β o,¬N.prot β B o)
  (Z: ∀(b:Nat) (x:bG) (B:Nat),b∈ids->mem[b]?=some (some x)->d5 G b x B->N.mine B)
  (hinn: ∀(b:Nat) (x:bG) (B i c B':Nat),b∈ids->mem[b]?=some (some x)->d5 G b x B->cA w B x.row i c B'->N.mine B'/\∀β o,¬N.prot β B' o) (hown: ∀B,w.heap.size≤B->N.mine B)
  (hlab: ∀B o,N.prot false B o->N.prot true B o) (Y: ∀β B o,N.prot β B o->B<w.heap.size):aI N w (dN m keep (eU m keep mem ids) mem 0 ids):=by
 have hr:=Ep K;have l0: ∀{j b:Nat} {x:bG},ids[j]?=some b->mem[b]?=some (some x)->N.loc j (eY m keep x.row.isCells j x.gen)=G.loc b x.gen:=by
  intro j b x hj H;rw[K];simp[q6,hj,jF.2 ⟨x,H,rfl⟩,kU H]
 have M: ∀{j b:Nat} {x:bG} {B:Nat},ids[j]?=some b->mem[b]?=some (some x)->d5 N j {gen:=eY m keep x.row.isCells j x.gen,frz:=x.frz,row:=x.row.ren (eU m keep mem ids)} B->d5 G b x B:=by
  rintro j b x B hj H ⟨L,V,hB⟩
  simp only at V;rw[l0 hj H]at V;exact⟨L,V,hB⟩
 refine⟨λj y h=>?_,λj g h=>?_,λj y g h hlt=>?_,λj j' y y' L L' B h h' V W hk hk'=>?_,λj j' y y' B i c B' h k hi h' k'=>?_,λj j' y y' B C i c i' c' B' h k hi h' k' hi'=>?_,hown,hlab,Y,hM.glob.mono (hp true) λ_ _ _=>rfl⟩
 ·obtain⟨b,x,O,H,rfl⟩:=c7 h;have hbx:=hM.box b x H;obtain⟨o,a0,V,ha0,hm⟩:=hbx.loc;refine⟨by simp only[lG];exact hbx.e,o,a0,?_,by rw[o6];exact ha0,?_⟩
  ·simp only[lG,h8];rw[l0 O H];exact V
  ·cases o with
   |none=>simp only[h8,cT];exact hm
   |some B=>
    obtain⟨h1,h2,h3,h4,h5⟩:=hm;have hB:d5 G b x B:=⟨_,V,rfl⟩
    have U:=yt O;exact⟨Z b x B U H hB,h2,h3,h4.ren (l:=true) hr (fun β B o _=>hp β B o) (λ_=>rfl) (λi c B' hi=>hinn b x B i c B' U H hB hi),λhf=>hnp b x B U H hf hB⟩
 ·rw[K];unfold q6;cases hj:ids[j]? with
  |none=>rfl
  |some b=>
   simp only[ye];cases hg:mR mem b with
   |none=>rfl
   |some g'=>
    obtain⟨x,H,_⟩:=jF.1 hg;exact absurd (by rw[d8,hj];simp[H]) (h {gen:=eY m keep x.row.isCells j x.gen,frz:=x.frz,row:=x.row.ren (eU m keep mem ids)})
 ·obtain⟨b,x,O,H,rfl⟩:=c7 h;rw[K];unfold q6;simp only[O,ye,jF.2 ⟨x,H,rfl⟩,kU H];rw[if_neg (by simp only at hlt;omega),if_neg (by omega)]
 ·obtain⟨b,x,O,H,rfl⟩:=c7 h;obtain⟨b',x',J,I,rfl⟩:=c7 h';simp only at V W;rw[l0 O H]at V;rw[l0 J I]at W;obtain rfl:=hM.apart b b' x x' L L' B H I V W hk hk';exact pI hn O J
 ·obtain⟨b,x,O,H,rfl⟩:=c7 h;obtain⟨b',x',J,I,rfl⟩:=c7 h';exact hM.inA b b' x x' B i c B' H (M O H k) (cA.ren.1 hi) I (M J I k')
 ·obtain⟨b,x,O,H,rfl⟩:=c7 h;obtain⟨b',x',J,I,rfl⟩:=c7 h';obtain⟨rfl,h2⟩:=hM.inB b b' x x' B C i c i' c' B' H (M O H k) (cA.ren.1 hi) I (M J I k') (cA.ren.1 hi');exact⟨pI hn O J,h2⟩
def Gh.drop(G:Gh)(b0:Nat):Gh:={G with loc:=λb g=>if b=b0 then none else G.loc b g}
theorem eQ: ∀{cs:List AV} {j:Nat} {y:AV} {b:Nat},cs[j]?=some y->b∈y.refs->b∈AV.refsAll cs
 | [],j,y,b,h,_=>by simp at h
 |c::cs,0,y,b,h,H=>by simp at h;subst h;simp[AV.refsAll,H]
 |c::cs,j+1,y,b,h,H=>by simp[AV.refsAll,eQ (cs:=cs) (j:=j) (by simpa using h) H]
theorem Gh.drop_loc{G:Gh}{b0 b g:Nat}(h:b≠b0):(G.drop b0).loc b g=G.loc b g:=by simp[Gh.drop,h]
theorem VR.drop{G:Gh}{w:World}{b0:Nat}{a:AV}{v:Value}(h:VR G w a v):b0∉a.refs->VR (G.drop b0) w a v:=by
 induction h with
 |lit v h=>intro _;exact .lit v h
 |imm β p v h hs=>intro _;exact .imm β p v h hs
 |unkB b=>intro _;exact .unkB b
 |dead v V Z=>intro _;exact .dead v V Z
 |ptr b g i c L B M H=>intro hn;exact .ptr b g i c L B (by rw[Gh.drop_loc (by rintro rfl;exact hn (by simp[AV.refs]))];exact M) H
 |ms b g o n cap L B M H hn N O=>intro I;exact .ms b g o n cap L B (by rw[Gh.drop_loc (by rintro rfl;exact I (by simp[AV.refs]))];exact M) H hn N O
 |msNil b g L M H=>intro hn;exact .msNil b g L (by rw[Gh.drop_loc (by rintro rfl;exact hn (by simp[AV.refs]))];exact M) H
 |msZ b g o B oo L M H ho N=>intro hn;exact .msZ b g o B oo L (by rw[Gh.drop_loc (by rintro rfl;exact hn (by simp[AV.refs]))];exact M) H ho N
 |msw b g cap L B M H hn O=>intro I;exact .msw b g cap L B (by rw[Gh.drop_loc (by rintro rfl;exact I (by simp[AV.refs]))];exact M) H hn O
 |mswNil b g L M H hn=>intro I;exact .mswNil b g L (by rw[Gh.drop_loc (by rintro rfl;exact I (by simp[AV.refs]))];exact M) H hn
 |el β p c B o cv h W=>intro _;exact .el β p c B o cv h W
 |fn f' fi ca fv cv V Z O hc Y ihc=>
  intro hn;simp only[AV.refs,yn1,not_or]at hn;exact .fn f' _ _ fv cv V Z (λj y K=>Y j y K (λh=>hn.1 (eQ K h))) (λj y K=>ihc j y K (λh=>hn.2 (eQ K h)))
 |agg cs cvs J h U=>intro hn;simp only[AV.refs]at hn;exact .agg _ cvs J (λj y K=>U j y K (λh=>hn (eQ K h)))
 |tup cs cvs J h U=>intro hn;simp only[AV.refs]at hn;exact .tup _ cvs J (λj y K=>U j y K (λh=>hn (eQ K h)))
theorem pX{b i c:Nat}{a:AV}: ∀{hs:List (Nat×Nat×AV)},aH i c hs=some a->b∈a.refs->b∈eL hs
 | [],h,_=>by cases h
 |(i',c',v)::r,h,H=>by
  simp only[aH]at h;simp only[eL,yn1];split at h
  ·obtain rfl:=ya h;exact .inl H
  ·exact .inr (pX h H)
theorem fN.drop{G:Gh}{w:World}{b0 B a:Nat}{r:aX}(h:fN G w B a r)(hn:b0∉r.refs):fN (G.drop b0) w B a r:=by
 cases r with
 |ints k xs=>exact h
 |pvs β e xs=>exact h
 |cells e cs=>exact⟨h.1,λj y J=>by obtain⟨v,U,Z,W⟩:=h.2 j y J;exact⟨v,U,Z,W.drop (λM=>hn (eQ J M))⟩⟩
 |own e xs hs=>
  refine⟨h.1,h.2.1,λi x c y hx J=>?_⟩;obtain⟨v,hv,N,H⟩:=h.2.2 i x c y hx J;refine⟨v,hv,N,?_⟩;cases O:aH i c hs with
  |some a=>rw[O]at H;exact VR.drop H (λM=>hn (pX O M))
  |none=>
   rw[O]at H;rcases H with H|⟨row,I,H⟩
   ·exact .inl H
   ·refine .inr ⟨row,I,?_⟩;rcases H with H|⟨B',a',cap,rfl,V,k1,k2,Y,k4,k5,K,k7⟩
    ·exact .inl H
    ·refine .inr ⟨B',a',cap,rfl,V,k1,k2,Y,k4,k5,?_,k7⟩;cases row with
     |ints k xs=>exact K
     |pvs β e xs=>exact K
     |cells e cs=>cases K
     |own e xs hs=>cases K
end Go.Ab
end
section
namespace Go.Ab
variable [b3]
theorem dX{b:Nat}: ∀{l r:List Nat},cB b (l++r)=cB b l+cB b r
 | [],r=>by simp[cB]
 |m::l,r=>by
  simp only[yt2,cB];cases Nat.beq m b with
  |true=>simp only[yl];rw[dX (l:=l)];omega
  |false=>simp only[yj];exact dX (l:=l)
theorem gX{b:Nat}: ∀{l:List Nat},b∈l->1≤cB b l
 | [],h=>by cases h
 |m::l,h=>by
  simp only[cB];cases H:Nat.beq m b with
  |true=>simp only[yl];omega
  |false=>
   simp only[yj];rcases yl1.1 h with rfl|h
   ·simp at H
   ·exact gX h
theorem jA{b:Nat}: ∀{mem:aK} {j:Nat} {x:bG},mem[j]?=some (some x)->cB b x.row.refs≤cB b (b6 mem)
 | [],j,x,h=>by simp at h
 |some y::m,0,x,h=>by simp at h;subst h;simp only[b6,dX];omega
 |none::m,0,x,h=>by simp at h
 |some y::m,j+1,x,h=>by have:=jA (b:=b) (mem:=m) (j:=j) (by simpa using h);simp only[b6,dX];omega
 |none::m,j+1,x,h=>by have:=jA (b:=b) (mem:=m) (j:=j) (by simpa using h);simpa only[b6]using this
theorem wZ{b:Nat}: ∀{mem:aK} {j j':Nat} {x x':bG},mem[j]?=some (some x)->mem[j']?=some (some x')->j≠j'->cB b x.row.refs+cB b x'.row.refs≤cB b (b6 mem)
 | [],j,j',x,x',h,_,_=>by simp at h
 |some y::m,0,0,x,x',h,H,hn=>absurd rfl hn
 |none::m,0,j',x,x',h,H,hn=>by simp at h
 |none::m,j+1,0,x,x',h,H,hn=>by simp at H
 |some y::m,0,j'+1,x,x',h,H,hn=>by
  simp at h;subst h;have:=jA (b:=b) (mem:=m) (j:=j') (by simpa using H);simp only[b6,dX];omega
 |some y::m,j+1,0,x,x',h,H,hn=>by
  simp at H;subst H;have:=jA (b:=b) (mem:=m) (j:=j) (by simpa using h);simp only[b6,dX];omega
 |some y::m,j+1,j'+1,x,x',h,H,hn=>by
  have:=wZ (b:=b) (mem:=m) (j:=j) (j':=j') (by simpa using h) (by simpa using H) (by omega);simp only[b6,dX];omega
 |none::m,j+1,j'+1,x,x',h,H,hn=>by
  have:=wZ (b:=b) (mem:=m) (j:=j) (j':=j') (by simpa using h) (by simpa using H) (by omega);simpa only[b6]using this
theorem BX{b:Nat}: ∀{hs:List (Nat×Nat×AV)} {k:Nat} {h:Nat×Nat×AV},hs[k]?=some h->cB b (eL hs)=cB b h.2.2.refs+cB b (eL (cD hs k))
 | [],k,h,H=>by simp at H
 |(i,c,v)::r,0,h,H=>by simp at H;subst H;simp only[eL,cD,dX]
 |(i,c,v)::r,k+1,h,H=>by
  have:=BX (b:=b) (hs:=r) (k:=k) (h:=h) (by simpa using H);simp only[eL,cD,dX];omega
theorem C6{α:Type}: ∀{l:List α} {k:Nat},∀x∈cD l k,x∈l
 | [],k,x,h=>by simp[cD]at h
 |a::r,0,x,h=>yg _ h
 |a::r,k+1,x,h=>by
  simp only[cD]at h;rcases yl1.1 h with rfl|h
  ·exact ym ..
  ·exact yg _ (C6 x h)
theorem Ah{c i:Nat}{v:AV}: ∀{hs:List (Nat×Nat×AV)} {k:Nat},hs[k]?=some (i,c,v)->i6 c (cD hs k)=none->
  aH i c hs=some v/\(∀H,H≠i->aH H c hs=none)/\∀H J,J≠c->aH H J (cD hs k)=aH H J hs
 | [],k,K,_=>by simp at K
 |(i2,U,v2)::r,0,K,I=>by
  simp at K;obtain⟨rfl,rfl,rfl⟩:=K;simp only[cD]at I;refine⟨by simp[aH],λH O=>?_,λH J V=>?_⟩
  ·simp only[aH];rw[if_neg (λh=>O h.1.symm)];exact dA I
  ·simp only[cD,aH];rw[if_neg (λh=>V h.2.symm)]
 |(i2,U,v2)::r,k+1,K,I=>by
  simp only[cD,i6]at I;cases N:Nat.beq c U with
  |true=>rw[N]at I;cases I
  |false=>
   rw[N]at I;simp only[yj]at I;have M:U≠c:=by rintro rfl;simp at N
   obtain⟨W,Z,Y⟩:=Ah (hs:=r) (k:=k) (by simpa using K) I;refine⟨?_,λH O=>?_,λH J V=>?_⟩
   ·simp only[aH];rw[if_neg (λh=>M h.2)];exact W
   ·simp only[aH];rw[if_neg (λh=>M h.2)];exact Z H O
   ·simp only[cD,aH];split
    ·rfl
    ·exact Y H J V
theorem OR.drop{G:Gh}{w:World}{b0:Nat}{y:PV}{v:Value}(h:OR G w y v):OR (G.drop b0) w y v:=by
 rcases h with I|⟨row,H,I⟩
 ·exact .inl I
 ·refine .inr ⟨row,H,?_⟩;rcases I with I|⟨B',V,cap,rfl,K,k1,U,M,W,N,J,O⟩
  ·exact .inl I
  ·refine .inr ⟨B',V,cap,rfl,K,k1,U,M,W,N,?_,O⟩;cases row with
   |ints k xs=>exact J
   |pvs β e xs=>exact J
   |cells e cs=>cases J
   |own e xs hs=>cases J
theorem Ht{G:Gh}{w:World}{mem:aK}{v:AV}{q:Nat×PV}{u:Value}(hM:aI G w mem)(h:wQ mem v=some q)(hv:VR G w v u):
  q.2.cells= [q.2]/\q.1∈v.refs/\OR G w q.2 u/\∃x,mem[q.1]?=some (some x)/\∀B' a' n cap,u= .slice (some ⟨B',a',none⟩) n cap->d5 G q.1 x B':=by
 have V: ∀{b g:Nat} {x:bG} {z:PV} {row:aX},mem[b]?=some (some x)->x.gen=g->x.frz=false->x.row=row->cH z=some row->En G w 0 0 row=En G w 0 0 row->(∀B a,fN G w B a row->En G w B a row)->VR G w (.msw b g) u->
   OR G w z u/\∀B' a' n cap,u= .slice (some ⟨B',a',none⟩) n cap->d5 G b x B':=by
  intro b g x z row hm Y K H hz _ hP hv;subst Y;cases hv with
  |msw _ _ cap L B Z hb hn J=>
   have hB:d5 G b x B:=⟨L,Z,hb⟩
   obtain⟨a0,I,W,M,O,h3,h4,h5⟩:=hM.blk hm hB;rw[Z]at I;obtain rfl:=ya I;rw[H]at h4 hn J⊢
   refine⟨.inr ⟨row,hz,.inr ⟨B,a0,cap,rfl,by rw[<-H];exact W,hn,J,M,O,h3,hP B _ h4,h5 K⟩⟩,λB' a' n N h=>?_⟩;simp only[Value.slice.injEq,Option.some.injEq,Addr.mk.injEq,and_true]at h;obtain⟨⟨rfl,_⟩,_⟩:=h;exact hB
  |mswNil _ _ L Z hb hn=>
   obtain⟨oo,a0,I,W,hmm⟩:=(hM.box b x hm).loc;rw[Z]at I;obtain rfl:=ya I;rw[H]at hn;exact⟨.inr ⟨row,hz,.inl ⟨rfl,hn⟩⟩,λB' a' n N h=>by cases h⟩
 have part: ∀{b g n:Nat} {x:bG} {z:PV} {row row':aX},mem[b]?=some (some x)->x.gen=g->x.frz=false->x.row=row->row'.len=n->row'.e=row.e->row'.isInts=row.isInts->cH z=some row'->(∀B a,fN G w B a row->En G w B a row')->VR G w (.ms b g 0 n) u->
   OR G w z u/\∀B' a' n cap,u= .slice (some ⟨B',a',none⟩) n cap->d5 G b x B':=by
  intro b g n x z row row' hm Y K H U he hri hz hP hv;subst Y;cases hv with
  |ms _ _ _ _ cap L B Z hb hn hon J=>
   have hB:d5 G b x B:=⟨L,Z,hb⟩
   obtain⟨a0,I,W,M,O,h3,h4,h5⟩:=hM.blk hm hB;rw[Z]at I;obtain rfl:=ya I;rw[H]at h4 J⊢
   simp only[yx2,yy,yk1]at J⊢
   refine⟨.inr ⟨row',hz,.inr ⟨B,a0,cap,by rw[U],by rw[hri,<-H];exact W,by rw[U];exact hn,by rw[he];exact J,M,O,h3,hP B _ h4,h5 K⟩⟩,λB' a' n N h=>?_⟩;simp only[Value.slice.injEq,Option.some.injEq,Addr.mk.injEq,and_true]at h;obtain⟨⟨rfl,_⟩,_⟩:=h;exact hB
  |msNil _ _ L Z hb=>exact⟨.inr ⟨row',hz,.inl ⟨rfl,U⟩⟩,λB' a' n N h=>by cases h⟩
  |msZ _ _ _ B oo L Z hb ho hon=>omega
 have hle: ∀{e:Nat} {xs:List PV} {b:Nat} {x:bG},mem[b]?=some (some x)->x.row= .pvs false e xs->∀ys,cH (.sl e ys)=some (.pvs false e ys):=by
  intro e xs b x hm H ys;have:=(hM.box b x hm).e;rw[H]at this;simp only[cH,guardB,cE.2 (show 1≤e from this),yl]
 unfold wQ at h;split at h
 ·rename_i b g;rw[bind_some]at h;obtain⟨x,hx,h⟩:=h;obtain⟨hm,Y⟩:=box?_some hx;cases K:x.frz with
  |true=>rw[K]at h;cases h
  |false=>
   rw[K]at h;simp only[yj]at h;split at h
   ·rename_i k xs H;obtain rfl:=ya h;obtain⟨M,O⟩:=V (z:= .ints k xs) hm Y K H rfl rfl (λB _ h=>h) hv;exact⟨rfl,by simp[AV.refs],M,x,hm,O⟩
   ·rename_i e xs H;obtain rfl:=ya h;obtain⟨M,O⟩:=V (z:= .sl e xs) hm Y K H (hle hm H xs) rfl (λB _ h=>h) hv;exact⟨rfl,by simp[AV.refs],M,x,hm,O⟩
   ·cases h
 ·rename_i b g n;rw[bind_some]at h;obtain⟨x,hx,h⟩:=h;obtain⟨hm,Y⟩:=box?_some hx;cases K:x.frz with
  |true=>rw[K]at h;cases h
  |false=>
   rw[K]at h;simp only[yj]at h;split at h
   ·rename_i k xs H;rw[aA]at h;obtain⟨hn,h⟩:=h;have hn:=cE.1 hn;obtain rfl:=ya h;obtain⟨M,O⟩:=part (z:= .ints k (xs.take n)) (row':= .ints k (xs.take n)) hm Y K H (by simp[aX.len];omega) rfl rfl rfl (λB _ h i x hi=>by
     have hi2:=(yd.1 hi).1;rw[yi1,if_pos (by simp at hi2;omega)]at hi;exact h i x hi) hv
    exact⟨rfl,by simp[AV.refs],M,x,hm,O⟩
   ·rename_i e xs H;rw[aA]at h;obtain⟨hn,h⟩:=h;have hn:=cE.1 hn;obtain rfl:=ya h;obtain⟨M,O⟩:=part (z:= .sl e (xs.take n)) (row':= .pvs false e (xs.take n)) hm Y K H (by simp[aX.len];omega) rfl rfl (hle hm H _) (λB _ h=>⟨λx hx=>h.1 x (yu2 hx),λi x c y hi hy=>by
     have hi2:=(yd.1 hi).1;rw[yi1,if_pos (by simp at hi2;omega)]at hi;exact h.2 i x c y hi hy⟩) hv
    exact⟨rfl,by simp[AV.refs],M,x,hm,O⟩
   ·cases h
 ·cases h
theorem J0{G:Gh}{w:World}{mem mem':aK}{b k:Nat}{vs:List AV}(hM:aI G w mem)(h:oP mem b k=some mem')
  (hcnt: ∀e xs hs gen frz hh b0,mem[b]?=some (some {gen,frz,row:= .own e xs hs})->hs[k]?=some hh->m7 hh.2.2=some b0->cB b0 (AV.refsAll vs++b6 mem)=1):
  ∃b0,aI (G.drop b0) w mem'/\b0∉AV.refsAll vs/\b0≠b/\(∀H:Nat,H≠b0->(∀x:bG,mem[H]?=some (some x)->∃x':bG,mem'[H]?=some (some x')/\x'.gen=x.gen/\x'.frz=x.frz/\x'.row.isCells=x.row.isCells)/\(mem[H]?=some none->mem'[H]?=some none))/\
   (∃(hh:Nat×Nat×AV) (e:Nat) (xs:List PV) (hs:List (Nat×Nat×AV)) (gen:Nat) (frz:Bool),mem[b]?=some (some {gen,frz,row:= .own e xs hs})/\hs[k]?=some hh/\m7 hh.2.2=some b0):=by
 unfold oP at h;split at h
 ·rename_i gen frz e xs hs hm;rw[bind_some]at h;obtain⟨hh,hk,h⟩:=h;obtain⟨i,c,v⟩:=hh;simp only at h;rw[bind_some]at h;obtain⟨p,hp,h⟩:=h;rw[bind_some]at h;obtain⟨y,hy,h⟩:=h;rw[bind_some]at h;obtain⟨q,K,h⟩:=h;rw[aA]at h;obtain⟨hg,h⟩:=h;obtain rfl:=ya h;simp only[yb,yq]at hg;obtain⟨⟨g1,g2⟩,g3⟩:=hg;have g3:=Option.isNone_iff_eq_none.1 g3;obtain⟨b0,z⟩:=q;simp only at g1 g2⊢
  have N:m7 v=some b0:=by
   unfold wQ at K;split at K
   ·rw[bind_some]at K;obtain⟨x,_,K⟩:=K;cases hf:x.frz<;>rw[hf]at K
    ·simp only[yj]at K;split at K
     ·cases K;rfl
     ·cases K;rfl
     ·cases K
    ·cases K
   ·rw[bind_some]at K;obtain⟨x,_,K⟩:=K;cases hf:x.frz<;>rw[hf]at K
    ·simp only[yj]at K;split at K
     ·rw[aA]at K;cases K.2;rfl
     ·rw[aA]at K;cases K.2;rfl
     ·cases K
    ·cases K
   ·cases K
  have hcnt:=hcnt e xs hs gen frz _ b0 hm hk N;obtain⟨o1,o2,o3⟩:=Ah hk g3;have hne:b0≠b:=λh=>by rw[bI.2 h]at g2;cases g2
  have hbl:b<mem.length:=(yd.1 hm).1
  -- the hole
  have hbx:=hM.box b _ hm;have hrefs:b0∈v.refs:=by
   unfold m7 at N;split at N
   ·cases N;simp[AV.refs]
   ·cases N;simp[AV.refs]
   ·cases N
  have hc1:=gX hrefs;have hdrop:=BX (b:=b0) hk;simp only at hdrop;rw[dX]at hcnt;have hbm:cB b0 (eL hs)≤cB b0 (b6 mem):=jA (b:=b0) hm;have hnv:b0∉AV.refsAll vs:=λh=>by have:=gX h;omega
  have hnd:b0∉eL (cD hs k):=λh=>by have:=gX h;omega
  have hno: ∀{H:Nat} {x:bG},H≠b->mem[H]?=some (some x)->b0∉x.row.refs:=by
   intro H x hb V h;have:=gX h;have O:cB b0 (eL hs)+cB b0 x.row.refs≤cB b0 (b6 mem):=wZ (b:=b0) hm V (λh=>hb h.symm);omega
  -- where the row stands: it has an element, hence a block
  obtain⟨oo,a0,hl,ha0,hmm⟩:=hbx.loc;have hxl:i<xs.length:=(yd.1 hp).1;cases oo with
  |none=>simp only[aX.len]at hmm;omega
  |some B=>
   obtain⟨m1,m2,m3,hr,m5⟩:=hmm;have hB:d5 G b {gen,frz,row:= .own e xs hs} B:=⟨_,hl,rfl⟩
   obtain⟨r1,r2,r3⟩:=hr;obtain⟨u,hu,hu1,hor⟩:=r3 i p c y hp hy;rw[o1]at hor;obtain⟨z1,z2,z3,x0,hx0,hzB⟩:=Ht hM K hor;simp only at z1 z2 z3 hx0 hzB;have hcell: ∀{J:Nat} {x':PV} {I:Nat} {y':PV},(xs.set i (iB p c z))[J]?=some x'->x'.cells[I]?=some y'->(J=i/\I=c/\y'=z)\/(¬(J=i/\I=c)/\∃x1,xs[J]?=some x1/\x1.cells[I]?=some y'):=by
    intro J x' I y' U O;rcases Hc U with ⟨rfl,rfl⟩|⟨hn,U⟩
    ·rw[rW hy z1]at O;by_cases M:I=c
     ·rw[if_pos M]at O;exact .inl ⟨rfl,M,(ya O).symm⟩
     ·rw[if_neg M]at O;exact .inr ⟨λh=>M h.2,p,hp,O⟩
    ·exact .inr ⟨λh=>hn h.1,x',U,O⟩
   have Y: ∀{H:Nat} {zz:bG},((mem.set b (some {gen,frz,row:= .own e (xs.set i (iB p c z)) (cD hs k)})).set b0 none)[H]?=some (some zz)->
     H≠b0/\((H=b/\zz={gen,frz,row:= .own e (xs.set i (iB p c z)) (cD hs k)})\/(H≠b/\mem[H]?=some (some zz))):=by
    intro H zz h;by_cases e0:H=b0
    ·subst e0;by_cases hl0:H<(mem.set b (some {gen,frz,row:= .own e (xs.set i (iB p c z)) (cD hs k)})).length
     ·rw[yw hl0]at h;cases h
     ·rw[yb1 (by simp at hl0⊢;omega)]at h;cases h
    ·rw[yp (λx=>e0 x.symm)]at h;refine⟨e0,?_⟩;by_cases W:H=b
     ·subst W;rw[yw hbl]at h;exact .inl ⟨rfl,by simpa using h.symm⟩
     ·rw[yp (λx=>W x.symm)]at h;exact .inr ⟨W,h⟩
   have hblk: ∀{H:Nat} {zz:bG} {C:Nat},H≠b0->d5 (G.drop b0) H zz C->d5 G H zz C:=by
    rintro H zz C hn ⟨L,l1,k1⟩
    rw[Gh.drop_loc hn]at l1;exact⟨L,l1,k1⟩
   have hblkb: ∀{C:Nat},d5 (G.drop b0) b {gen,frz,row:= .own e (xs.set i (iB p c z)) (cD hs k)} C->C=B:=by
    intro C h;obtain⟨L,l1,k1⟩:=hblk (λh=>hne h.symm) h;simp only at l1;rw[hl]at l1;obtain rfl:=ya l1;exact(ya k1).symm
   -- inner blocks
   have hinn: ∀{J I B':Nat},cA w B (aX.own e (xs.set i (iB p c z)) (cD hs k)) J I B'->(J=i/\I=c/\d5 G b0 x0 B')\/cA w B (aX.own e xs hs) J I B':=by
    rintro J I B' ⟨⟨x',y',row,U,O,h3⟩,ho,a',n,cap,hcl⟩
    rcases hcell U O with ⟨rfl,rfl,rfl⟩|⟨hn,x1,U,O⟩
    ·rw[hu]at hcl;exact .inl ⟨rfl,rfl,hzB B' a' n cap (ya hcl)⟩
    ·refine .inr ⟨⟨x1,y',row,U,O,h3⟩,?_,a',n,cap,hcl⟩;by_cases M:I=c
     ·subst M;exact o2 J (λh=>hn ⟨h,rfl⟩)
     ·rw[<-o3 J I M];exact ho
   have hin0: ∀{H:Nat} {zz:bG} {C J I B':Nat},((mem.set b (some {gen,frz,row:= .own e (xs.set i (iB p c z)) (cD hs k)})).set b0 none)[H]?=some (some zz)->d5 (G.drop b0) H zz C->cA w C zz.row J I B'->
     (H=b/\J=i/\I=c/\d5 G b0 x0 B')\/(∃z0,mem[H]?=some (some z0)/\d5 G H z0 C/\cA w C z0.row J I B'):=by
    intro H zz C J I B' h hC Z;obtain⟨hn,h⟩:=Y h;rcases h with ⟨rfl,rfl⟩|⟨hn1,h⟩
    ·obtain rfl:=hblkb hC;rcases hinn Z with ⟨U,O,h3⟩|Z
     ·exact .inl ⟨rfl,U,O,h3⟩
     ·exact .inr ⟨_,hm,hB,Z⟩
    ·exact .inr ⟨zz,h,hblk hn hC,Z⟩
   have hbk0: ∀{H:Nat} {zz:bG} {C:Nat},((mem.set b (some {gen,frz,row:= .own e (xs.set i (iB p c z)) (cD hs k)})).set b0 none)[H]?=some (some zz)->d5 (G.drop b0) H zz C->H≠b0/\∃z0,mem[H]?=some (some z0)/\d5 G H z0 C:=by
    intro H zz C h hC;obtain⟨hn,h⟩:=Y h;rcases h with ⟨rfl,rfl⟩|⟨hn1,h⟩
    ·obtain rfl:=hblkb hC;exact⟨hn,_,hm,hB⟩
    ·exact⟨hn,zz,h,hblk hn hC⟩
   refine⟨b0,⟨λH zz h=>?_,λH g h=>?_,λH zz g h hlt=>?_,λb1 b2 z1 z2 L1 L2 C U O l1 l2 k1 k2=>?_,λb1 b2 z1 z2 C J I B' U k1 Z O k2=>?_,λb1 b2 z1 z2 C D J I i2 c2 B' U k1 Z O k2 hi2=>?_,hM.own,hM.lab,hM.away,hM.glob⟩,hnv,hne,λH hb'=>⟨λx V=>?_,λV=>?_⟩,⟨_,_,_,_,_,_,hm,hk,N⟩⟩
   ·obtain⟨hn,h⟩:=Y h;rcases h with ⟨rfl,rfl⟩|⟨hn1,h⟩
    ·refine⟨hbx.e,some B,a0,by rw[Gh.drop_loc hn];simpa[aX.e,aX.len]using hl,λ_=>ha0 rfl,m1,m2,m3,?_,m5⟩;refine⟨λx V=>by rw[yz2];exact r1 x (C6 x V),λx V=>?_,λJ x' I y' U O=>?_⟩
     ·rcases yk2 V with h|h
      ·exact r2 x h
      ·rw[h,FT hy z1];exact r2 p (yt hp)
     ·rcases hcell U O with ⟨rfl,rfl,rfl⟩|⟨hn',x1,U,O⟩
      ·refine⟨u,hu,hu1,?_⟩;rw[dA g3];exact OR.drop z3
      ·obtain⟨v',hv',hv1',ho'⟩:=r3 J x1 I y' U O;refine⟨v',hv',hv1',?_⟩;by_cases M:I=c
       ·subst M;rw[dA g3];rw[o2 J (λh=>hn' ⟨h,rfl⟩)]at ho';exact OR.drop ho'
       ·rw[o3 J I M];cases hq2:aH J I hs with
        |some a=>
         rw[hq2]at ho';exact VR.drop ho' (λhb=>hnd (pX (i:=J) (c:=I) (by rw[o3 J I M];exact hq2) hb))
        |none=>rw[hq2]at ho';exact OR.drop ho'
    ·have hb:=hM.box H zz h;obtain⟨o',a0,hlo,ha0,hmo⟩:=hb.loc;refine⟨hb.e,o',a0,by rw[Gh.drop_loc hn];exact hlo,ha0,?_⟩;cases o' with
     |none=>exact hmo
     |some C=>exact⟨hmo.1,hmo.2.1,hmo.2.2.1,hmo.2.2.2.1.drop (hno hn1 h),hmo.2.2.2.2⟩
   ·by_cases e0:H=b0
    ·subst e0;simp[Gh.drop]
    ·rw[Gh.drop_loc e0];refine hM.unset H g λx V=>?_;by_cases W:H=b
     ·subst W;exact h _ (by rw[yp (λx=>e0 x.symm),yw hbl])
     ·exact h x (by rw[yp (λx=>e0 x.symm),yp (λx=>W x.symm)];exact V)
   ·obtain⟨hn,h⟩:=Y h;rw[Gh.drop_loc hn];rcases h with ⟨rfl,rfl⟩|⟨hn1,h⟩
    ·exact hM.gens _ _ g hm hlt
    ·exact hM.gens _ _ g h hlt
   ·obtain⟨n1,y1,a1,d1⟩:=hbk0 U ⟨L1,l1,k1⟩;obtain⟨n2,y2,a2,d2⟩:=hbk0 O ⟨L2,l2,k2⟩;obtain⟨M1,d1,W⟩:=d1;obtain⟨M2,d2,e2⟩:=d2;exact hM.apart _ _ y1 y2 M1 M2 C a1 a2 d1 d2 W e2
   ·obtain⟨n2,y2,a2,d2⟩:=hbk0 O k2;rcases hin0 U k1 Z with ⟨rfl,rfl,rfl,hb0⟩|⟨z0,a1,d1,Z⟩
    ·obtain⟨M1,d1,W⟩:=hb0;obtain⟨M2,d2,e2⟩:=d2;exact n2 (hM.apart _ _ x0 y2 M1 M2 B' hx0 a2 d1 d2 W e2).symm
    ·exact hM.inA _ _ z0 y2 C J I B' a1 d1 Z a2 d2
   ·rcases hin0 U k1 Z with ⟨rfl,rfl,rfl,hb0⟩|⟨z0,a1,d1,Z⟩<;>rcases hin0 O k2 hi2 with ⟨rfl,rfl,rfl,hb0'⟩|⟨z0',a2,d2,hi2⟩
    ·exact⟨rfl,rfl,rfl⟩
    ·exact absurd hb0 (hM.inA _ _ z0' x0 D i2 c2 B' a2 d2 hi2 hx0)
    ·exact absurd hb0' (hM.inA _ _ z0 x0 C J I B' a1 d1 Z hx0)
    ·exact hM.inB _ _ z0 z0' C D J I i2 c2 B' a1 d1 Z a2 d2 hi2
   ·by_cases W:H=b
    ·subst W;rw[hm]at V;simp at V;subst V;exact⟨{gen,frz,row:= .own e (xs.set i (iB p c z)) (cD hs k)},by rw[yp (λx=>hb' x.symm),yw hbl],rfl,rfl,rfl⟩
    ·exact⟨x,by rw[yp (λx=>hb' x.symm),yp (λx=>W x.symm)];exact V,rfl,rfl,rfl⟩
   ·have W:H≠b:=by rintro rfl;rw[hm]at V;cases V
    rw[yp (λx=>hb' x.symm),yp (λx=>W x.symm)];exact V
 ·cases h
theorem sM{m:Nat}{refs:List Nat}{mem:aK}{all:List (Nat×Nat×AV)}: ∀{hs:List (Nat×Nat×AV)} {n k:Nat},jJ m refs mem all hs n=some k->∃j h,k=n+j/\hs[j]?=some h/\jX m refs mem h.2.2=true
 | [],n,k,h=>by cases h
 |(i,c,v)::r,n,k,h=>by
  simp only[jJ]at h;cases H:(jX m refs mem v&&(i6 c (cD all n)).isNone)with
  |true=>
   rw[H]at h;obtain rfl:=ya h;simp only[yb]at H;exact⟨0,_,rfl,rfl,H.1⟩
  |false=>
   rw[H]at h;simp only[yj]at h;obtain⟨j,q,rfl,J,I⟩:=sM h;exact⟨j+1,q,by omega,by simpa using J,I⟩
theorem wE{m:Nat}{refs:List Nat}{mem:aK}: ∀{l:aK} {n:Nat} {q:Nat×Nat},gJ m refs mem l n=some q->
  ∃j gen frz e xs hs h,q.1=n+j/\l[j]?=some (some {gen,frz,row:= .own e xs hs})/\hs[q.2]?=some h/\jX m refs mem h.2.2=true
 | [],n,q,h=>by cases h
 |x::r,n,q,h=>by
  have next:gJ m refs mem r (n+1)=some q->∃j gen frz e xs hs h,q.1=n+j/\(x::r)[j]?=some (some {gen,frz,row:= .own e xs hs})/\hs[q.2]?=some h/\jX m refs mem h.2.2=true:=by
   intro h;obtain⟨j,gen,frz,e,xs,hs,H,h1,K,J,I⟩:=wE h;exact⟨j+1,gen,frz,e,xs,hs,H,by omega,by simpa using K,J,I⟩
  simp only[gJ]at h;split at h
  ·rename_i gen frz e xs hs;split at h
   ·rename_i k O;obtain rfl:=ya h;obtain⟨j,H,rfl,N,M⟩:=sM O;exact⟨0,gen,frz,e,xs,hs,H,rfl,rfl,by simpa using N,M⟩
   ·exact next h
  ·exact next h
structure wG (G:Gh) (w:World) (mem:aK) (m:Nat) (vs:List AV) (G':Gh) (mem':aK):Prop where
 memr:aI G' w mem'
 mine:G'.mine=G.mine
 prot:G'.prot=G.prot
 loc: ∀b g,b<m->G'.loc b g=G.loc b g
 vals: ∀(j:Nat) (y:AV) (v:Value),vs[j]?=some y->VR G w y v->VR G' w y v
 old: ∀b':Nat,b'<m->(∀x:bG,mem[b']?=some (some x)->∃x':bG,mem'[b']?=some (some x')/\x'.gen=x.gen/\x'.frz=x.frz/\x'.row.isCells=x.row.isCells)/\(mem[b']?=some none->mem'[b']?=some none)
theorem vR{w:World}{m:Nat}{vs:List AV}: ∀{n:Nat} {G:Gh} {mem mem':aK},aI G w mem->kR m vs n mem=some mem'->∃O,wG G w mem m vs O mem'
 |0,G,mem,mem',hM,h=>by
  obtain rfl:=ya h;exact⟨G,hM,rfl,rfl,λ_ _ _=>rfl,λ_ _ _ _ h=>h,λM _=>⟨λx H=>⟨x,H,rfl,rfl,rfl⟩,λh=>h⟩⟩
 |n+1,G,mem,mem',hM,h=>by
  simp only[kR]at h;split at h
  ·obtain rfl:=ya h;exact⟨G,hM,rfl,rfl,λ_ _ _=>rfl,λ_ _ _ _ h=>h,λM _=>⟨λx H=>⟨x,H,rfl,rfl,rfl⟩,λh=>h⟩⟩
  ·rename_i q hq;rw[bind_some]at h;obtain⟨mem1,hg,h⟩:=h;obtain⟨j,gen,frz,e,xs,hs,hh,Y,h2,h3,J⟩:=wE hq;rw[yy]at Y;subst Y
   -- the box that is given up
   have I: ∀b0,m7 hh.2.2=some b0->m≤b0/\cB b0 (AV.refsAll vs++b6 mem)=1:=by
    intro b0 N;unfold jX at J;rw[N]at J;simp only[yb]at J;exact⟨cE.1 J.1.1,bI.1 J.1.2⟩
   obtain⟨b0,U,n1,n2,n3,⟨hh',e',xs',hs',Z,frz',k1,k2,k3⟩⟩:=J0 (vs:=vs) hM hg (λe2 xs2 hs2 gen2 frz2 hh2 b0 a1 K V=>by
    rw[h2]at a1;simp only[Option.some.injEq,bG.mk.injEq,aX.own.injEq]at a1;obtain⟨_,_,_,_,rfl⟩:=a1;rw[h3]at K;obtain rfl:=ya K;exact(I b0 V).2)
   rw[h2]at k1;simp only[Option.some.injEq,bG.mk.injEq,aX.own.injEq]at k1;obtain⟨_,_,_,_,rfl⟩:=k1;rw[h3]at k2;obtain rfl:=ya k2;have hm0:=(I b0 k3).1;obtain⟨O,hG⟩:=vR U h;refine⟨O,hG.memr,hG.mine,hG.prot,λb g N=>?_,λj y v hy hv=>hG.vals j y v hy (hv.drop (λhr=>n1 (eQ hy hr))),λM W=>?_⟩
   ·rw[hG.loc b g N,Gh.drop_loc (by omega)]
   ·obtain⟨p1,p2⟩:=n3 M (by omega);obtain⟨r1,r2⟩:=hG.old M W;refine⟨λx H=>?_,λH=>r2 (p2 H)⟩;obtain⟨x1,a1,K,V,a4⟩:=p1 x H;obtain⟨x2,c1,c2,c3,c4⟩:=r1 x1 a1;exact⟨x2,c1,by rw[c2,K],by rw[c3,V],by rw[c4,a4]⟩
theorem aI.drop{G:Gh}{w:World}{mem:aK}{b0:Nat}(hM:aI G w mem)(h0:cB b0 (b6 mem)=0):aI (G.drop b0) w (mem.set b0 none):=by
 have H: ∀{b:Nat} {x:bG},(mem.set b0 none)[b]?=some (some x)->b≠b0/\mem[b]?=some (some x):=by
  intro b x h;by_cases e:b=b0
  ·subst e;by_cases K:b<mem.length
   ·rw[yw K]at h;cases h
   ·rw[yb1 (by rw[yz2];omega)]at h;cases h
  ·rw[yp (λx=>e x.symm)]at h;exact⟨e,h⟩
 have J: ∀{b:Nat} {x:bG} {B:Nat},b≠b0->d5 (G.drop b0) b x B->d5 G b x B:=by
  rintro b x B K ⟨L,U,hB⟩
  rw[Gh.drop_loc K]at U;exact⟨L,U,hB⟩
 have O: ∀{b:Nat} {x:bG},mem[b]?=some (some x)->b0∉x.row.refs:=by
  intro b x I hr;have h1:=jA (b:=b0) I;have h2:=gX hr;omega
 refine⟨λb x h=>?_,λb g h=>?_,λb x g h hlt=>?_,λb Y x x' L L' B h V U W hk hk'=>?_,λb Y x x' B i c B' h k hi V k'=>?_,λb Y x x' B C i c i' c' B' h k hi V k' hi'=>?_,hM.own,hM.lab,hM.away,hM.glob.mono (λ_ _ h=>h) λ_ _ _=>rfl⟩
 ·obtain⟨K,I⟩:=H h;have Z:=hM.box b x I;obtain⟨o,a0,U,ha0,hm⟩:=Z.loc;refine⟨Z.e,o,a0,by rw[Gh.drop_loc K];exact U,ha0,?_⟩;cases o with
  |none=>exact hm
  |some B=>
   obtain⟨h1,h2,h3,h4,h5⟩:=hm;exact⟨h1,h2,h3,h4.drop (O I),h5⟩
 ·by_cases e:b=b0
  ·subst e;simp[Gh.drop]
  ·rw[Gh.drop_loc e];refine hM.unset b g λx I=>h x ?_;rw[yp (λx=>e x.symm)];exact I
 ·obtain⟨K,I⟩:=H h;rw[Gh.drop_loc K];exact hM.gens b x g I hlt
 ·obtain⟨K,I⟩:=H h;obtain⟨N,M⟩:=H V;rw[Gh.drop_loc K]at U;rw[Gh.drop_loc N]at W;exact hM.apart b Y x x' L L' B I M U W hk hk'
 ·obtain⟨K,I⟩:=H h;obtain⟨N,M⟩:=H V;exact hM.inA b Y x x' B i c B' I (J K k) hi M (J N k')
 ·obtain⟨K,I⟩:=H h;obtain⟨N,M⟩:=H V;exact hM.inB b Y x x' B C i c i' c' B' I (J K k) hi M (J N k') hi'
theorem wG.refl{G:Gh}{w:World}{mem:aK}{m:Nat}{vs:List AV}(hM:aI G w mem):wG G w mem m vs G mem:=
 ⟨hM,rfl,rfl,λ_ _ _=>rfl,λ_ _ _ _ h=>h,λb' _=>⟨λx H=>⟨x,H,rfl,rfl,rfl⟩,λh=>h⟩⟩
theorem wG.trans{G U Y:Gh}{w:World}{mem I H:aK}{m:Nat}{vs:List AV}(K:wG G w mem m vs U I)(J:wG U w I m vs Y H):wG G w mem m vs Y H:=by
 refine⟨J.memr,J.mine.trans K.mine,J.prot.trans K.prot,λb g O=>(J.loc b g O).trans (K.loc b g O),λj y v W hv=>J.vals j y v W (K.vals j y v W hv),λV M=>?_⟩;obtain⟨p1,p2⟩:=K.old V M;obtain⟨r1,Z⟩:=J.old V M;refine⟨λx N=>?_,λN=>Z (p2 N)⟩;obtain⟨x1,a1,a2,a3,a4⟩:=p1 x N;obtain⟨x2,c1,c2,c3,c4⟩:=r1 x1 a1;exact⟨x2,c1,by rw[c2,a2],by rw[c3,a3],by rw[c4,a4]⟩
theorem o5{w:World}{m:Nat}{vs:List AV}: ∀{n:Nat} {G:Gh} {mem:aK},aI G w mem->∃J,wG G w mem m vs J (pN m vs n mem)
 |0,G,mem,hM=>⟨G,.refl hM⟩
 |b+1,G,mem,hM=>by
  simp only[pN];cases N:(Nat.ble m b&&Lx mem b&&Nat.beq (cB b (AV.refsAll vs++b6 mem)) 0)with
  |false=>exact o5 hM
  |true=>
   simp only[yl];simp only[yb]at N;have U:=cE.1 N.1.1;have Y:=bI.1 N.2;rw[dX]at Y;have H:=hM.drop (b0:=b) (by omega);have V:wG G w mem m vs (G.drop b) (mem.set b none):=by
    refine⟨H,rfl,rfl,λO g M=>Gh.drop_loc (by omega),λj y v Z hv=>hv.drop (λhr=>?_),λO M=>?_⟩
    ·have:=gX (eQ Z hr);omega
    ·have I:b≠O:=by omega
     exact⟨λx K=>⟨x,by rw[yp I];exact K,rfl,rfl,rfl⟩,λK=>by rw[yp I];exact K⟩
   obtain⟨J,W⟩:=o5 (n:=b) H;exact⟨J,V.trans W⟩
theorem BO{w:World}{m:Nat}{vs:List AV}{G:Gh}{mem mem':aK}(hM:aI G w mem)(h:Bp m vs mem=some mem'): ∃I,wG G w mem m vs I mem':=by
 obtain⟨G1,H⟩:=o5 (m:=m) (vs:=vs) (n:=mem.length) hM;obtain⟨K,J⟩:=vR H.memr h;exact⟨K,H.trans J⟩
end Go.Ab
end
section
namespace Go.Ab
variable [b3]
theorem BZ: ∀{n i:Nat} {ids:List Nat} {j:Nat},sS i n ids=true->j<n->ids[j]?=some (i+j)
 |0,i,ids,j,_,h=>by omega
 |n+1,i,[],j,h,_=>by simp[sS]at h
 |n+1,i,b::r,j,h,hj=>by
  simp only[sS,yb]at h;cases j with
  |zero=>simp[bI.1 h.1]
  |succ j=>rw[yd1,BZ h.2 (by omega)];congr 1;omega
theorem vB: ∀{old:List (Option Bool)} {mem:aK} {j:Nat},mZ old mem=true->
  (∀k,old[j]?=some (some k)->∃x,mem[j]?=some (some x)/\x.row.isCells=k/\(k=true->x.gen=0))/\(old[j]?=some none->mem[j]?=some none)
 | [],mem,j,h=>by simp
 |some k::r,[],j,h=>by simp[mZ]at h
 |none::r,[],j,h=>by simp[mZ]at h
 |some k::r,none::m,j,h=>by simp[mZ]at h
 |none::r,some x::m,j,h=>by simp[mZ]at h
 |none::r,none::m,0,h=>by simp
 |none::r,none::m,j+1,h=>by
  simp only[mZ]at h;simpa using vB (j:=j) h
 |some k::r,some x::m,0,h=>by
  simp only[mZ,yb]at h;refine⟨λk' H=>?_,by simp⟩;simp at H;subst H;refine⟨x,rfl,?_,λH=>?_⟩
  ·cases k<;>simp_all
  ·subst H;simp at h;exact h.1.2
 |some k::r,some x::m,j+1,h=>by
  simp only[mZ,yb]at h;simpa using vB (j:=j) h.2
theorem wL{j n:Nat}(h:n≤j):Nat.blt j n=false:=by
 cases H:Nat.blt j n with
 |false=>rfl
 |true=>have:=cE.1 (show Nat.ble (j+1) n=true from H);omega
theorem BH{keep:Bool}{G:Gh}{w:World}{mem:aK}{old:List (Option Bool)}{vs:List AV}{r:List AV×aK}(hM:aI G w mem)(h:qV keep old vs mem=some r):
  ∃f M Z,r.1=AV.renAll f vs/\Z.mine=G.mine/\Z.prot=G.prot/\M.prot=G.prot/\aI Z w r.2/\Cb M Z f/\(∀(j:Nat) (y:AV) (v:Value),vs[j]?=some y->VR G w y v->VR M w y v)/\
   (∀(j:Nat) (k:Bool),old[j]?=some (some k)->∃y:bG,r.2[j]?=some (some y)/\y.row.isCells=k/\∀L,G.loc j 0=some L->Z.loc j 0=some L)/\
   (∀(j:Nat) (y:bG),old.length≤j\/y.row.isCells=true->r.2[j]?=some (some y)->y.gen=0)/\(∀j:Nat,old[j]?=some none->r.2[j]?=some none):=by
 unfold qV at h;rw[bind_some]at h;obtain⟨H,Y,h⟩:=h;obtain⟨M,hG⟩:=BO hM Y;have I:=hG.memr;generalize fF H (cW H (old.length+(AV.refsAll vs).length)) (nS 0 old.length++AV.refsAll vs) []=ids at h;simp only at h;rw[aA]at h;obtain⟨hg,h⟩:=h;simp only[yb]at hg;obtain⟨⟨g1,g2⟩,g3⟩:=hg;obtain rfl:=ya h;have O: ∀j,j<old.length->ids[j]?=some j:=λj U=>by rw[BZ g3 U,yy]
 refine⟨eU old.length keep H ids,M,⟨q6 old.length keep M H ids,M.prot,M.mine⟩,rfl,hG.mine,hG.prot,hG.prot,?_,Ep rfl,hG.vals,λj k U=>?_,λj y V hy=>?_,λj U=>?_⟩
 ·refine Fp I g2 rfl (λ_ _ _ h=>h) (λb x B _ J hf hB=>let ⟨_,_,_,_,_,_,_,h⟩:=I.blk J hB;h hf) (λb x B _ J hB=>let ⟨_,_,_,h,_⟩:=I.blk J hB;h) (λb x B i c B' _ J hB hi=>⟨(I.inn J hB hi).1,(I.inn J hB hi).2.2.2⟩) I.own I.lab I.away
 ·have K:=(yd.1 U).1;obtain⟨x,J,hk,h0⟩:=(vB (j:=j) g1).1 k U;refine⟨{gen:=eY old.length keep x.row.isCells j x.gen,frz:=x.frz,row:=x.row.ren (eU old.length keep H ids)},?_,by simp only[cT];exact hk,λL hL=>?_⟩
  ·rw[d8,O j K];simp[J]
  ·rw[<-hG.loc j 0 K]at hL;show q6 old.length keep M H ids j 0=some L;simp only[q6,O j K,ye,jF.2 ⟨x,J,rfl⟩,kU J];split
   ·rename_i hz;have W:x.gen=0:=by
     cases hc:x.row.isCells with
     |true=>exact h0 (by rw[<-hk];exact hc)
     |false=>
      rw[hc]at hz;simp only[eY,show Nat.blt j old.length=true from cE.2 K,Bool.not_false,yd3,yl]at hz;cases N:(keep&&Nat.beq x.gen 0)with
      |true=>simp only[yb]at N;exact bI.1 N.2
      |false=>rw[N]at hz;cases hz
    rw[W];exact hL
   ·rw[if_pos (by simp[K])];exact hL
 ·obtain⟨b,x,_,_,rfl⟩:=c7 hy;simp only[cT]at V;simp only[eY];rcases V with h|h
  ·rw[wL h];rfl
  ·rw[h];simp
 ·have J:=(vB (j:=j) g1).2 U;rw[d8,O j (yd.1 U).1];simp[J]
def Gh.lend(G:Gh)(S:Nat->Nat->Prop):Gh:={G with prot:=fun β B o=>G.prot β B o\/(β=true/\S B o)}
theorem cJ.lend(G:Gh)(S:Nat->Nat->Prop)(hS: ∀B o,S B o->G.mine B):cJ G (G.lend S):=⟨rfl,λ_ _ _ h=> .inl h,λ_ _ _ h=>h,λ_ B o h=>h.imp id (λh=>hS B o h.2)⟩
section
variable {P:Program}
theorem MI{mem:aK}{n:Nat}{l:LK}{v:AV}{r:Bool×PV×List Nat}(h:bA P mem n l v=some r)(H:(∃b g,v= .msw b g)\/(∃b g o m,v= .ms b g o m)):r.2.1.isSl=true:=by
 have hI: ∀{k:IntKind} {b:Nat} {w:aL} {r:Bool×PV×List Nat},bA.treeInts k b w=some r->r.2.1.isSl=true:=by
  intro k b w r h;unfold bA.treeInts at h;split at h
  ·rw[aA]at h;obtain⟨_,h⟩:=h;obtain rfl:=ya h;rfl
  ·rw[aA]at h;obtain⟨_,h⟩:=h;obtain⟨xs,_,rfl⟩:=yc.1 h;rfl
  ·simp at h
 have hS: ∀{f:LK->AV->Option (Bool×PV×List Nat)} {t:TypeId} {e b:Nat} {w:aL} {r:Bool×PV×List Nat},bA.treeSl P f t e b w=some r->r.2.1.isSl=true:=by
  intro f t e b w r h;unfold bA.treeSl at h;split at h
  ·rw[aA]at h;obtain⟨_,h⟩:=h;obtain rfl:=ya h;rfl
  ·rw[aA]at h;obtain⟨_,h⟩:=h;rw[bind_some]at h;obtain⟨_,_,h⟩:=h;obtain⟨xs,_,rfl⟩:=yc.1 h;rfl
  ·simp at h
 cases n with
 |zero=>simp[bA]at h
 |succ n=>
  rcases H with ⟨b,g,rfl⟩|⟨b,g,o,m,rfl⟩
  ·cases l<;>simp only[bA]at h<;>first
    |(simp at h;done)
    |(rw[bind_some]at h;obtain⟨x,_,h⟩:=h;exact hI h)
    |(rw[bind_some]at h;obtain⟨x,_,h⟩:=h;exact hS h)
  ·cases l<;>simp only[bA]at h<;>first
    |(simp at h;done)
    |(rw[bind_some]at h;obtain⟨x,_,h⟩:=h;rw[bind_some]at h;obtain⟨y,_,h⟩:=h;exact hI h)
    |(rw[bind_some]at h;obtain⟨x,_,h⟩:=h;rw[bind_some]at h;obtain⟨y,_,h⟩:=h;exact hS h)
theorem Ka{mem:aK}{l:LK}{v:AV}{r:Bool×PV×List Nat}(h:iI P mem l v=some r)(H:(∃b g,v= .msw b g)\/(∃b g o m,v= .ms b g o m)):r.2.1.isSl=true:=by
 unfold iI at h;split at h
 ·split at h
  ·rw[aA]at h;obtain⟨_,h⟩:=h;obtain rfl:=ya h;rfl
  ·cases h
 ·exact MI h H
theorem l3{G:Gh}{w:World}{mem:aK}{S:List Nat}{l:LK}{v:AV}{r:AV×List Nat}{cv:Value}(hM:aI G w mem)(h:fX P mem l v=some r)(M:VR G w v cv)(hS: ∀b∈r.2,b∈S):
  VR (G.lend (aW G w mem S)) w r.1 cv:=by
 have J: ∀{q:Bool×PV×List Nat},iI P mem l v=some q->r=(.imm true q.2.1,q.2.2)->((∃b g,v= .msw b g)\/(∃b g o m,v= .ms b g o m))->VR (G.lend (aW G w mem S)) w r.1 cv:=by
  intro q I hr hm;subst hr;obtain⟨N,_,_⟩:=BR hM I M;refine .imm true _ _ (N.mono (λB o H=>?_) (λ_ _ _=>rfl)) (Ka I hm);rcases H with H|H
  ·left;cases K:q.1 with
   |true=>rw[K]at H;exact H
   |false=>rw[K]at H;exact hM.lab _ _ H
  ·exact .inr ⟨rfl,H.mono hS⟩
 unfold fX at h;split at h
 ·obtain⟨q,I,hr⟩:=yc.1 h;exact J I hr.symm (.inl ⟨_,_,rfl⟩)
 ·obtain⟨q,I,hr⟩:=yc.1 h;exact J I hr.symm (.inr ⟨_,_,_,_,rfl⟩)
 ·obtain rfl:=ya h;exact M.mono (cJ.lend G _ hM.inBoxes) (Ev.refl G w)
theorem p8{G:Gh}{w:World}{mem:aK}{S:List Nat}(hM:aI G w mem): ∀{ls:List LK} {vs:List AV} {r:List AV×List Nat} {us:List Value},bR P mem ls vs=some r->gH G w vs us->(∀b∈r.2,b∈S)->
  gH (G.lend (aW G w mem S)) w r.1 us
 | [],[],r,us,h,I,_=>by
  simp[bR]at h;subst h;exact⟨I.1,λj y H=>by simp at H⟩
 | [],v::vs,r,us,h,_,_=>by simp[bR]at h
 |l::ls,[],r,us,h,_,_=>by simp[bR]at h
 |l::ls,v::vs,r,[],h,I,_=>by simp[gH]at I
 |l::ls,v::vs,r,u::us,h,I,hS=>by
  simp only[bR]at h;rw[bind_some]at h;obtain⟨a,N,h⟩:=h;rw[bind_some]at h;obtain⟨b,J,h⟩:=h;obtain rfl:=ya h;have M:=l3 hM N (I.2 0 v rfl) (λb J=>hS b (yq1 _ J));have K:=p8 hM J (us:=us) ⟨by simpa using I.1,λj y H=>by simpa using I.2 (j+1) y (by simpa using H)⟩ (λb J=>hS b (yr1 _ J));refine⟨by simp[K.1],λj y H=>?_⟩;cases j with
  |zero=>simp at H;subst H;exact M
  |succ j=>simpa using K.2 j y (by simpa using H)
theorem Kl{G:Gh}{w:World}{mem:aK}{S:List Nat}{t:TypeId}{v:AV}{r:AV×List Nat}{cv:Value}(hM:aI G w mem)(h:lend P mem t v=some r)(J:VR G w v cv)(hS: ∀b∈r.2,b∈S):
  VR (G.lend (aW G w mem S)) w r.1 cv:=by
 have H:=fun{a:AV} {u:Value} (h:VR G w a u)=>h.mono (cJ.lend G _ (hM.inBoxes (ids:=S))) (Ev.refl G w);unfold lend at h;split at h
 ·rw[bind_some]at h;obtain⟨l,O,h⟩:=h;exact l3 hM h J hS
 ·rw[bind_some]at h;obtain⟨l,O,h⟩:=h;exact l3 hM h J hS
 ·rename_i cs;cases I:FU cs with
  |true=>
   rw[I]at h;simp only[yl]at h;rw[bind_some]at h;obtain⟨ls,N,h⟩:=h;obtain⟨q,U,rfl⟩:=yc.1 h;obtain⟨cvs,rfl,M⟩:=J.agg_inv;have:=p8 (us:=cvs.toList) hM U ⟨by simpa using M.1,λj y K=>by rw[dR];exact M.2 j y K⟩ hS;exact .agg _ cvs (by simpa using this.1) (λj y K=>by rw[<-dR];exact this.2 j y K)
  |false=>
   rw[I]at h;simp only[yj]at h;obtain rfl:=ya h;exact H J
 ·obtain rfl:=ya h;exact H J
theorem wA{G:Gh}{w:World}{mem:aK}{S:List Nat}(hM:aI G w mem): ∀{ts:List TypeId} {vs:List AV} {r:List AV×List Nat} {us:List Value},fI P mem ts vs=some r->gH G w vs us->(∀b∈r.2,b∈S)->
  gH (G.lend (aW G w mem S)) w r.1 us
 | [],[],r,us,h,I,_=>by
  simp[fI]at h;subst h;exact⟨I.1,λj y H=>by simp at H⟩
 | [],v::vs,r,us,h,_,_=>by simp[fI]at h
 |l::ls,[],r,us,h,_,_=>by simp[fI]at h
 |l::ls,v::vs,r,[],h,I,_=>by simp[gH]at I
 |l::ls,v::vs,r,u::us,h,I,hS=>by
  simp only[fI]at h;rw[bind_some]at h;obtain⟨a,N,h⟩:=h;rw[bind_some]at h;obtain⟨b,J,h⟩:=h;obtain rfl:=ya h;have M:=Kl hM N (I.2 0 v rfl) (λb J=>hS b (yq1 _ J));have K:=wA hM J (us:=us) ⟨by simpa using I.1,λj y H=>by simpa using I.2 (j+1) y (by simpa using H)⟩ (λb J=>hS b (yr1 _ J));refine⟨by simp[K.1],λj y H=>?_⟩;cases j with
  |zero=>simp at H;subst H;exact M
  |succ j=>simpa using K.2 j y (by simpa using H)
theorem If{G:Gh}{w:World}{mem:aK}{S:List Nat}(hM:aI G w mem){keep:Bool}{ts:List TypeId}{vs:List AV}{r:List AV×List Nat}{us:List Value}(h:H9 P keep mem ts vs=some r)(H:gH G w vs us)(hS: ∀b∈r.2,b∈S):
  gH (G.lend (aW G w mem S)) w r.1 us:=by
 cases keep with
 |true=>
  obtain rfl:=ya h;exact⟨H.1,λj y I=>(H.2 j y I).mono (cJ.lend G (aW G w mem S) hM.inBoxes) (Ev.refl G w)⟩
 |false=>exact wA hM h H hS
structure OE (G:Gh) (w:World) (mem:aK) (r:AV×aK) (G':Gh) (w':World) (cv:Value):Prop where
 v:VR G' w' r.1 cv
 ev:Ev G w w'
 mine:G'.mine=G.mine
 prot: ∀β B o,G.prot β B o->G'.prot β B o
 new: ∀β B o,G'.prot β B o->G.prot β B o\/G.mine B
 memR:aI G' w' r.2
 gens: ∀(j:Nat) (y:bG),mem.length≤j\/y.row.isCells=true->r.2[j]?=some (some y)->y.gen=0
 kept: ∀(j:Nat) (x:bG),mem[j]?=some (some x)->∃y:bG,r.2[j]?=some (some y)/\y.row.isCells=x.row.isCells/\∀L,G.loc j 0=some L->G'.loc j 0=some L
 nones: ∀j:Nat,mem[j]?=some none->r.2[j]?=some none
def iU(P:Program)(C:bM):Prop:= ∀g args mem r,C g args mem=some r->∀G w vargs,aI G w mem->(∀(j:Nat) (x:bG),mem[j]?=some (some x)->x.gen=0)->nH G w args vargs->
 (callFunc g vargs).run P w= .ok (.enter g vargs) w/\Calls P g vargs w λe w'=> ∃G' cv,e= .returned cv/\OE G w mem r G' w' cv
def kK(G:Gh)(mem:aK)(m:Nat)(B _o:Nat):Prop:= ∃(b:Nat) (x:bG) (L:BI),m≤b/\mem[b]?=some (some x)/\G.loc b x.gen=some L/\L.blk=some B
theorem n7{G:Gh}{w:World}{mem:aK}{m:Nat}{v:AV}{cv:Value}(hM:aI G w mem)(V:VR G w v cv):VR (G.frz (kK G mem m)) w (v.frz m mem) cv:=by
 have hg:cJ G (G.frz (kK G mem m)):=cJ.frz G _ (by rintro B o ⟨b,x,L,_,hx,U,hB⟩;exact hM.mine hx U hB);have H:=fun{a:AV} {u:Value} (h:VR G w a u)=>h.mono hg (Ev.refl G w);unfold AV.frz;split
 ·rename_i b g;cases hle:Nat.ble m b with
  |false=>simp only[yj];exact H V
  |true=>
   simp only[yl];split
   ·rename_i x hx;obtain⟨hm,rfl⟩:=box?_some hx;have N:=hM.box b x hm;split
    ·rename_i k xs J;cases V with
     |msw _ _ cap L B U Z hn hf=>
      obtain⟨o,a0,I,O,M⟩:=N.loc;have K:=U;rw[I]at K;obtain rfl:=ya K;simp only at Z;subst Z;have hr:=M.2.2.2.1;rw[J]at hr hn⊢
      refine .imm false _ _ (.ints k xs B a0 cap hn λi x' hx'=>?_) rfl;exact⟨hr i x' hx',.inr ⟨b,x,_,cE.1 hle,hm,I,rfl⟩⟩
     |mswNil _ _ L U Z hn=>
      obtain⟨o,a0,I,O,M⟩:=N.loc;rw[U]at I;obtain rfl:=ya I;rw[J]at hn;obtain rfl:=yo hn;exact .imm false _ _ (.intsNil k _) rfl
    ·rename_i β e xs J;cases V with
     |msw _ _ cap L B U Z hn hf=>
      obtain⟨o,a0,I,O,M⟩:=N.loc;have K:=U;rw[I]at K;obtain rfl:=ya K;simp only at Z;subst Z;have hr:=M.2.2.2.1;have he:=N.e;obtain rfl:=O (by rw[J];rfl);rw[J]at hr hn he⊢
      obtain⟨hlen,hcell⟩:=hr;have W: ∀(i:Nat) (x:PV) (c:Nat) (y:PV),xs[i]?=some x->x.cells[c]?=some y->cl w B (i*e+c)=some ((cl w B (i*e+c)).getD undef)/\((cl w B (i*e+c)).getD undef).oneCell'=true/\PR w (G.prot β) y ((cl w B (i*e+c)).getD undef):=by
       intro i x c y Y h2;obtain⟨v,V,hv1,hv2⟩:=hcell i x c y Y h2;rw[V];exact⟨rfl,hv1,hv2⟩
      refine .imm β _ _ (.sl e xs B 0 cap (λi c=>(cl w B (i*e+c)).getD undef) he hn hlen (λi x' c y Y h2=>?_) (λi x' c y Y h2=>(W i x' c y Y h2).2.1) (λi x' c y Y h2=>(W i x' c y Y h2).2.2.mono (λ_ _ h=> .inl h) (λ_ _ _=>rfl))) rfl;rw[yy];exact⟨(W i x' c y Y h2).1,.inr ⟨b,x,_,cE.1 hle,hm,I,rfl⟩⟩
     |mswNil _ _ L U Z hn=>
      obtain⟨o,a0,I,O,M⟩:=N.loc;rw[U]at I;obtain rfl:=ya I;rw[J]at hn;obtain rfl:=yo hn;exact .imm β _ _ (.slNil e _) rfl
    ·exact H V
    ·exact H V
   ·exact H V
 ·exact H V
theorem gT(m:Nat)(mem:aK): ∀vs:List AV,AV.frzAll m mem vs=vs.map (·.frz m mem)
 | []=>rfl
 |v::vs=>by simp[AV.frzAll,gT m mem vs]
theorem HK{G:Gh}{w:World}{mem:aK}{m:Nat}{v:AV}{cv:Value}(hM:aI G w mem)(K:VR G w v cv):VR (G.frz (kK G mem m)) w (kP m mem v) cv:=by
 unfold kP;split
 ·rename_i vs;cases K with
  |tup _ cvs H h=>
   refine .tup _ cvs (by rw[gT];simpa using H) (λj y I=>?_);rw[gT,yc1]at I;obtain⟨x,J,rfl⟩:=yc.1 I;exact n7 hM (h j x J)
 ·rename_i vs;cases K with
  |agg _ cvs H h=>
   refine .agg _ cvs (by rw[gT];simpa using H) (λj y I=>?_);rw[gT,yc1]at I;obtain⟨x,J,rfl⟩:=yc.1 I;exact n7 hM (h j x J)
 ·exact n7 hM K
theorem C3{mem:aK}{m:Nat}{v:AV}(K:gA mem=false)(I:v.lent=false):(v.frz m mem).lent=false:=by
 unfold AV.frz;split
 ·rename_i b g;cases Nat.ble m b with
  |false=>exact I
  |true=>
   simp only[yl];split
   ·rename_i x J;obtain⟨hm,_⟩:=box?_some J;split
    ·rfl
    ·rename_i β e xs H;simp only[AV.lent];cases β with
     |false=>rfl
     |true=>have:=mX hm (by rw[H];rfl);rw[K]at this;cases this
    ·rfl
    ·rfl
   ·rfl
 ·exact I
theorem nT: ∀{cs:List AV},AV.lentAny cs=false↔∀y∈cs,y.lent=false
 | []=>by simp[AV.lentAny]
 |c::cs=>by simp[AV.lentAny,nT (cs:=cs)]
theorem IR{mem:aK}{m:Nat}{v:AV}(K:gA mem=false)(H:v.lent=false):(kP m mem v).lent=false:=by
 unfold kP;split
 ·rename_i vs;simp only[AV.lent]at H⊢
  rw[nT]at H⊢
  intro y I;rw[gT]at I;obtain⟨x,J,rfl⟩:=yq2.1 I;exact C3 K (H x J)
 ·rename_i vs;simp only[AV.lent]at H⊢
  rw[nT]at H⊢
  intro y I;rw[gT]at I;obtain⟨x,J,rfl⟩:=yq2.1 I;exact C3 K (H x J)
 ·exact C3 K H
end
end Go.Ab
end
