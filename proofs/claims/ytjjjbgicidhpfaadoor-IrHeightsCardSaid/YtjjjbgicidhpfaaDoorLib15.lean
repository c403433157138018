import Derived.Test.YtjjjbgicidhpfaaDoorLib14
set_option linter.unusedVariables false
set_option linter.unusedSectionVars false
set_option linter.unusedSimpArgs false
namespace Go.Ab
variable [cS]
section
variable {P:Program} {R:Type} {r:R} {mem:aH} {tab:TypeId->Option TI}
theorem gO{t:TypeId}{ls:List LK}(H:isAgg? P t=some false)(h:leaves? P 8 t=some ls): ∃l,leaf? P t=some l/\ls= [l]:=by
 unfold leaves? at h;unfold isAgg? at H;split at h
 ·rename_i fs J;rw[J]at H;cases H
 ·obtain⟨l,K,rfl⟩:=yf.1 h;exact⟨l,K,rfl⟩
theorem JB{t:TypeId}{k:IntKind}(h:leaf? P t=some (.int k)):P.underlying t=some (.int k):=by
 unfold leaf? at h;split at h
 ·rename_i k' H;simp only[Option.some.injEq,LK.int.injEq]at h;rw[H,h]
 ·cases h
 ·cases h
 ·rename_i e H;split at h
  ·cases h
  ·obtain⟨_,_,h⟩:=yf.1 h;cases h
 ·cases h
theorem cH.intKind{t:TypeId}{K:TI}{k:IntKind}(h:cH P t K)(hT:K.ty=some (.int k))(H:K.ag=false):intKind? P t=some k/\P.underlying t=some (.int k):=by
 obtain⟨⟨ls,J,hc⟩,_⟩:=h.ty _ hT;have M:=h.ag;rw[H]at M;obtain⟨l,N,rfl⟩:=gO M J;simp only[bE]at hc;split at hc
 ·rename_i k' O;obtain rfl:=(yd1 O).1;obtain rfl:=yR.1 hc;have:=JB N;exact⟨by unfold intKind?;rw[this],this⟩
 ·cases hc
theorem cH.intKind_none{t:TypeId}{H:TI}{T:Ty}(h:cH P t H)(hT:H.ty=some T)(hn:jW H.ag T=false):intKind? P t=none:=by
 cases J:intKind? P t with
 |none=>rfl
 |some k=>
  exfalso;unfold intKind? at J;split at J
  ·rename_i V N;obtain rfl:=yb J;have O:isAgg? P t=some false:=by unfold isAgg?;rw[N]
   have K:H.ag=false:=by have:=h.ag;rw[O]at this;exact(yb this).symm
   obtain⟨⟨ls,M,hc⟩,_⟩:=h.ty _ hT;obtain⟨l,W,rfl⟩:=gO O M;have:leaf? P t=some (.int V):=by unfold leaf?;rw[N]
   rw[W]at this;obtain rfl:=yb this;rw[K]at hn;cases T with
   |int _=>cases hn
   |bool=>simp[bE]at hc
   |str=>simp[bE]at hc
   |sl g T=>simp[bE]at hc
   |cons a b=>
    simp only[bE,yc]at hc;have U:=hc.2;cases b<;>simp[bE]at U
  ·cases J
theorem wP: ∀{T:Ty} {ls:List LK},bE P T ls=true->ls.all B9=T.flat
 | .int k,ls,h=>by simp only[bE]at h;split at h<;>first|rfl|cases h
 | .bool,ls,h=>by simp only[bE]at h;split at h<;>first|rfl|cases h
 | .str,ls,h=>by simp only[bE]at h;split at h<;>first|rfl|cases h
 | .sl ag T,ls,h=>by simp only[bE]at h;split at h<;>first|rfl|cases h
 | .cons a b,ls,h=>by
  simp only[bE]at h;split at h
  ·rename_i l ls;simp only[yc]at h;have H:=wP h.1.2;have J:=wP h.2;simp only[yn3,List.all_nil,ya4]at H;simp only[yn3,H,J];show _=JZ a.flat b.flat
   rw[q9]
  ·cases h
theorem cH.flat{t:TypeId}{J:TI}{T:Ty}(h:cH P t J)(hT:J.ty=some T):P3 P t=T.flat:=by
 obtain⟨⟨ls,H,hc⟩,_⟩:=h.ty _ hT;unfold P3;rw[H];exact wP hc
theorem Cf: ∀{T:Ty} {x:den T},T.flat=true->(aV T x).all Q6=true
 | .int k,x,h=>rfl
 | .bool,x,h=>rfl
 | .str,x,h=>rfl
 | .sl ag T,x,h=>by cases h
 | .cons a b,x,h=>by
  have H:JZ a.flat b.flat=true:=h;rw[q9,yc]at H;simp only[aV,List.all_append,Cf H.1,Cf H.2,yj1]
theorem Uh{ag:Bool}{T:Ty}(h:T.flat=true)(xs:List (den T)):(xs.map (c9 ag T)).all Fj=true:=by
 simp only[List.all_map,ya1,Function.comp_apply,Fj,cU];intro x _;have:=Cf (x:=x) h;rwa[ya1]at this
theorem sE(ht:b9 P tab){K:TypeId}{k:KRow->Option R}(h:Ai tab K k=some r): ∃H T,tab K=some H/\H.ty=some T/\k (.ts false H.ag T [])=some r:=by
 unfold Ai at h;split at h
 ·rename_i H J;split at h
  ·rename_i T hT;exact⟨H,T,J,hT,h⟩
  ·cases h
 ·cases h
theorem FX(ht:b9 P tab){N:TypeId}{v:KV}{k:KRow->List Nat->Option R}(h:MY (aZ R) tab N mem v k=some r):
  ∃row rd,k row rd=some r/\view P N (aD mem) v.down=some (row.view,rd):=by
 unfold MY at h;split at h
 ·rename_i β ag T xs;split at h
  ·rename_i te W;have H:=cH.of (ht _ _ W);split at h
   ·rename_i O V;have K:=H.flat V;refine KRow.tsCases (P:=fun β ag T xs=> ∀{k:KRow->List Nat->Option R},(bif O.flat then(bif T.flat then k (.ts false ag T xs) []else none)else k (.ts (CZ β ag T) ag T xs) [])=some r->∃row rd,k row rd=some r/\view P N (aD mem) (KV.tsl β ag T xs).down=some (row.view,rd)) (fun β Z xs=>?_) (fun β ag T xs hn=>?_) β ag T xs h
    ·intro k h;cases hf:O.flat with
     |true=>rw[hf]at h;simp only[yh]at h;exact⟨_,_,h,rfl⟩
     |false=>rw[hf]at h;simp only[yg]at h;exact⟨_,_,h,rfl⟩
    ·intro k h;have Y:(KV.tsl β ag T xs).down= .imm β (.sl T.size (xs.map (c9 ag T))):=by simp only[KV.down,cO hn]
     rw[Y];cases hf:O.flat with
     |true=>
      rw[hf]at h;simp only[yh]at h;rw[cJ]at h;refine⟨_,_,h.2,?_⟩;simp only[view,K,hf,Uh h.1,yj1,yh,KRow.view_sl hn]
     |false=>
      rw[hf]at h;simp only[yg]at h;refine⟨_,_,h,?_⟩;simp only[view,K,hf,Bool.false_and,yg,KRow.view_sl hn,pJ hn]
   ·cases h
  ·cases h
 ·rename_i b g o n;obtain⟨x,M,h⟩:=cR h;obtain⟨w,hw,h,_⟩:=I7 h;exact⟨w,[b],h,by simp only[KV.down,view,M,ya];rw[show x.down.row=x.row.down from rfl,hw];rfl⟩
 ·rename_i b g;obtain⟨x,M,h⟩:=cR h;exact⟨x.row,[b],h,by simp only[KV.down,view,M,ya];rw[show x.down.row=x.row.down from rfl,HA]⟩
 ·exact⟨_,_,h,rfl⟩
 ·obtain⟨ti,T,U,hT,h⟩:=sE ht h;have H:=cH.of (ht _ _ U);refine⟨_,_,h,?_⟩;cases hr:jW ti.ag T with
  |true=>
   obtain⟨J,Z,rfl⟩:=aS.1 hr;simp only[KV.down,view,(H.intKind hT J).1];rw[J];rfl
  |false=>
   simp only[KV.down,view,H.intKind_none hT hr,H.n,yl,KRow.view_sl hr,yf4,(H.ty T hT).2.1]
 ·cases h
theorem Uj(ht:b9 P tab){t:TypeId}{x:KV}{k:Int->List Nat->Option R}(h:Wi tab t mem x k=some r):
  ∃n rd,k (n:Nat) rd=some r/\lenOf P t (aD mem) x.down=some (n,rd):=by
 unfold Wi at h;split at h
 ·rename_i ti K;have H:=(cH.of (ht _ _ K)).tk;unfold qU at H;split at h
  ·rename_i M;rw[M]at H;cases J:P.underlying t with
   |none=>rw[J]at H;simp at H
   |some d=>
    rw[J]at H;cases d<;>simp only at H<;>first|cases H|skip
    split at h
    ·exact⟨_,_,h,by simp only[lenOf,J,KV.down]⟩
    ·cases h
  ·rename_i et M;rw[M]at H;cases J:P.underlying t with
   |none=>rw[J]at H;simp at H
   |some d=>
    rw[J]at H;cases d<;>simp only at H<;>first|cases H|skip
    split at h
    ·rename_i β ag T xs;refine⟨_,_,h,?_⟩;refine KRow.tsCases (P:=fun β ag T xs=>lenOf P t (aD mem) (KV.tsl β ag T xs).down=some (xs.length,[])) (fun β V xs=>?_) (fun β ag T xs hn=>?_) β ag T xs
     ·show lenOf P t (aD mem) (.imm β (.ints V xs))=_;simp only[lenOf,J];rfl
     ·have U:(KV.tsl β ag T xs).down= .imm β (.sl T.size (xs.map (c9 ag T))):=by simp only[KV.down,cO hn]
      rw[U];simp only[lenOf,J,ym1]
    ·exact⟨_,_,h,by simp only[lenOf,J,KV.down]⟩
    ·rename_i b g;obtain⟨x,O,h⟩:=cR h;have N:lenOf P t (aD mem) (KV.msw b g).down=some (gD x.row,[b]):=by
      simp only[lenOf,J,KV.down,O,yl];rw[show x.down.row=x.row.down from rfl,rB]
     split at h
     ·rename_i β ag T xs hr;refine⟨_,_,h,?_⟩;rw[N,hr];rfl
     ·rename_i e cs hr;refine⟨_,_,h,?_⟩;rw[N,hr];rfl
     ·cases h
    ·exact⟨0,[],h,by simp only[lenOf,J,KV.down]⟩
    ·cases h
  ·cases h
 ·cases h
end
end Go.Ab
