import Derived.Test.YtjjjbgicidhpfaaDoorLib14
set_option linter.unusedVariables false
set_option linter.unusedSectionVars false
set_option linter.unusedSimpArgs false
namespace Go.Ab
variable [cF]
section
variable {P:Program} {R:Type} {r:R} {mem:aF} {tab:TypeId->Option TI}
theorem fL{t:TypeId}{ls:List LK}(H:isAgg? P t=some false)(h:leaves? P 8 t=some ls): ∃l,leaf? P t=some l/\ls= [l]:=by
 unfold leaves? at h;unfold isAgg? at H;split at h
 ·rename_i fs K;rw[K]at H;cases H
 ·obtain⟨l,J,rfl⟩:=ye.1 h;exact⟨l,J,rfl⟩
theorem GY{t:TypeId}{k:IntKind}(h:leaf? P t=some (.int k)):P.underlying t=some (.int k):=by
 unfold leaf? at h;split at h
 ·rename_i k' H;simp only[Option.some.injEq,LK.int.injEq]at h;rw[H,h]
 ·cases h
 ·cases h
 ·rename_i e H;split at h
  ·cases h
  ·obtain⟨_,_,h⟩:=ye.1 h;cases h
 ·cases h
theorem b5.intKind{t:TypeId}{H:TI}{k:IntKind}(h:b5 P t H)(hT:H.ty=some (.int k))(J:H.ag=false):intKind? P t=some k/\P.underlying t=some (.int k):=by
 obtain⟨⟨ls,K,hc⟩,_⟩:=h.ty _ hT;have M:=h.ag;rw[J]at M;obtain⟨l,N,rfl⟩:=fL M K;simp only[a7]at hc;split at hc
 ·rename_i k' O;obtain rfl:=(yb1 O).1;obtain rfl:=vO.1 hc;have:=GY N;exact⟨by unfold intKind?;rw[this],this⟩
 ·cases hc
theorem b5.intKind_none{t:TypeId}{H:TI}{T:Ty}(h:b5 P t H)(hT:H.ty=some T)(hn:iQ H.ag T=false):intKind? P t=none:=by
 cases J:intKind? P t with
 |none=>rfl
 |some k=>
  exfalso;unfold intKind? at J;split at J
  ·rename_i V N;obtain rfl:=ya J;have O:isAgg? P t=some false:=by unfold isAgg?;rw[N]
   have M:H.ag=false:=by have:=h.ag;rw[O]at this;exact(ya this).symm
   obtain⟨⟨ls,K,hc⟩,_⟩:=h.ty _ hT;obtain⟨l,W,rfl⟩:=fL O K;have:leaf? P t=some (.int V):=by unfold leaf?;rw[N]
   rw[W]at this;obtain rfl:=ya this;rw[M]at hn;cases T with
   |int _=>cases hn
   |bool=>simp[a7]at hc
   |str=>simp[a7]at hc
   |sl g T=>simp[a7]at hc
   |cons a b=>
    simp only[a7,yc]at hc;have U:=hc.2;cases b<;>simp[a7]at U
  ·cases J
theorem s0: ∀{T:Ty} {ls:List LK},a7 P T ls=true->ls.all AB=T.flat
 | .int k,ls,h=>by simp only[a7]at h;split at h<;>first|rfl|cases h
 | .bool,ls,h=>by simp only[a7]at h;split at h<;>first|rfl|cases h
 | .str,ls,h=>by simp only[a7]at h;split at h<;>first|rfl|cases h
 | .sl ag T,ls,h=>by simp only[a7]at h;split at h<;>first|rfl|cases h
 | .cons a b,ls,h=>by
  simp only[a7]at h;split at h
  ·rename_i l ls;simp only[yc]at h;have H:=s0 h.1.2;have J:=s0 h.2;simp only[ym3,List.all_nil,yz3]at H;simp only[ym3,H,J];show _=Id a.flat b.flat
   rw[pA]
  ·cases h
theorem b5.flat{t:TypeId}{J:TI}{T:Ty}(h:b5 P t J)(hT:J.ty=some T):Ny P t=T.flat:=by
 obtain⟨⟨ls,H,hc⟩,_⟩:=h.ty _ hT;unfold Ny;rw[H];exact s0 hc
theorem AN: ∀{T:Ty} {x:den T},T.flat=true->(aQ T x).all Pi=true
 | .int k,x,h=>rfl
 | .bool,x,h=>rfl
 | .str,x,h=>rfl
 | .sl ag T,x,h=>by cases h
 | .cons a b,x,h=>by
  have H:Id a.flat b.flat=true:=h;rw[pA,yc]at H;simp only[aQ,List.all_append,AN H.1,AN H.2,yi1]
theorem Sp{ag:Bool}{T:Ty}(h:T.flat=true)(xs:List (den T)):(xs.map (cR ag T)).all CI=true:=by
 simp only[List.all_map,yf1,Function.comp_apply,CI,cG];intro x _;have:=AN (x:=x) h;rwa[yf1]at this
theorem qB(ht:bT P tab){K:TypeId}{k:KRow->Option R}(h:wB tab K k=some r): ∃H T,tab K=some H/\H.ty=some T/\k (.ts false H.ag T [])=some r:=by
 unfold wB at h;split at h
 ·rename_i H J;split at h
  ·rename_i T hT;exact⟨H,T,J,hT,h⟩
  ·cases h
 ·cases h
theorem CY(ht:bT P tab){N:TypeId}{v:KV}{k:KRow->List Nat->Option R}(h:Mc (aS R) tab N mem v k=some r):
  ∃row rd,k row rd=some r/\view P N (aB mem) v.down=some (row.view,rd):=by
 unfold Mc at h;split at h
 ·rename_i β ag T xs;split at h
  ·rename_i te M;have H:=b5.of (ht _ _ M);split at h
   ·rename_i V O;have J:=H.flat O;refine KRow.tsCases (P:=fun β ag T xs=> ∀{k:KRow->List Nat->Option R},(bif V.flat then(bif T.flat then k (.ts false ag T xs) []else none)else k (.ts (Bu β ag T) ag T xs) [])=some r->∃row rd,k row rd=some r/\view P N (aB mem) (KV.tsl β ag T xs).down=some (row.view,rd)) (fun β kk xs=>?_) (fun β ag T xs hn=>?_) β ag T xs h
    ·intro k h;cases hf:V.flat with
     |true=>rw[hf]at h;simp only[yg]at h;exact⟨_,_,h,rfl⟩
     |false=>rw[hf]at h;simp only[yh]at h;exact⟨_,_,h,rfl⟩
    ·intro k h;have Z:(KV.tsl β ag T xs).down= .imm β (.sl T.size (xs.map (cR ag T))):=by simp only[KV.down,cB hn]
     rw[Z];cases hf:V.flat with
     |true=>
      rw[hf]at h;simp only[yg]at h;rw[bZ]at h;refine⟨_,_,h.2,?_⟩;simp only[view,J,hf,Sp h.1,yi1,yg,KRow.view_sl hn]
     |false=>
      rw[hf]at h;simp only[yh]at h;refine⟨_,_,h,?_⟩;simp only[view,J,hf,Bool.false_and,yh,KRow.view_sl hn,nK hn]
   ·cases h
  ·cases h
 ·rename_i b g o n;obtain⟨x,U,h⟩:=cE h;obtain⟨w,hw,h,_⟩:=Gr h;exact⟨w,[b],h,by simp only[KV.down,view,U,yb];rw[show x.down.row=x.row.down from rfl,hw];rfl⟩
 ·rename_i b g;obtain⟨x,U,h⟩:=cE h;exact⟨x.row,[b],h,by simp only[KV.down,view,U,yb];rw[show x.down.row=x.row.down from rfl,FM]⟩
 ·exact⟨_,_,h,rfl⟩
 ·obtain⟨Y,T,W,hT,h⟩:=qB ht h;have H:=b5.of (ht _ _ W);refine⟨_,_,h,?_⟩;cases hr:iQ Y.ag T with
  |true=>
   obtain⟨K,kk,rfl⟩:=aO.1 hr;simp only[KV.down,view,(H.intKind hT K).1];rw[K];rfl
  |false=>
   simp only[KV.down,view,H.intKind_none hT hr,H.n,yl,KRow.view_sl hr,yf4,(H.ty T hT).2.1]
 ·cases h
theorem Rt(ht:bT P tab){t:TypeId}{x:KV}{k:Int->List Nat->Option R}(h:Up tab t mem x k=some r):
  ∃n rd,k (n:Nat) rd=some r/\lenOf P t (aB mem) x.down=some (n,rd):=by
 unfold Up at h;split at h
 ·rename_i ti M;have H:=(b5.of (ht _ _ M)).tk;unfold pL at H;split at h
  ·rename_i K;rw[K]at H;cases J:P.underlying t with
   |none=>rw[J]at H;simp at H
   |some d=>
    rw[J]at H;cases d<;>simp only at H<;>first|cases H|skip
    split at h
    ·exact⟨_,_,h,by simp only[lenOf,J,KV.down]⟩
    ·cases h
  ·rename_i et K;rw[K]at H;cases J:P.underlying t with
   |none=>rw[J]at H;simp at H
   |some d=>
    rw[J]at H;cases d<;>simp only at H<;>first|cases H|skip
    split at h
    ·rename_i β ag T xs;refine⟨_,_,h,?_⟩;refine KRow.tsCases (P:=fun β ag T xs=>lenOf P t (aB mem) (KV.tsl β ag T xs).down=some (xs.length,[])) (fun β V xs=>?_) (fun β ag T xs hn=>?_) β ag T xs
     ·show lenOf P t (aB mem) (.imm β (.ints V xs))=_;simp only[lenOf,J];rfl
     ·have U:(KV.tsl β ag T xs).down= .imm β (.sl T.size (xs.map (cR ag T))):=by simp only[KV.down,cB hn]
      rw[U];simp only[lenOf,J,yk1]
    ·exact⟨_,_,h,by simp only[lenOf,J,KV.down]⟩
    ·rename_i b g;obtain⟨x,O,h⟩:=cE h;have N:lenOf P t (aB mem) (KV.msw b g).down=some (fD x.row,[b]):=by
      simp only[lenOf,J,KV.down,O,yl];rw[show x.down.row=x.row.down from rfl,pN]
     split at h
     ·rename_i β ag T xs hr;refine⟨_,_,h,?_⟩;rw[N,hr];rfl
     ·rename_i e cs hr;refine⟨_,_,h,?_⟩;rw[N,hr];rfl
     ·cases h
    ·exact⟨0,[],h,by simp only[lenOf,J,KV.down]⟩
    ·cases h
  ·cases h
 ·cases h
end
end Go.Ab
