import Derived.Test.YtjjjbgicidhpfaaDoorLib13
set_option linter.unusedVariables false
set_option linter.unusedSectionVars false
set_option linter.unusedSimpArgs false
namespace Go.Ab
variable [b3]
section
variable {P:Program} {R:Type} {r:R} {mem:aE} {tab:TypeId->Option TI}
theorem eP{t:TypeId}{ls:List LK}(H:isAgg? P t=some false)(h:leaves? P 8 t=some ls): ∃l,leaf? P t=some l/\ls= [l]:=by
 unfold leaves? at h;unfold isAgg? at H;split at h
 ·rename_i fs J;rw[J]at H;cases H
 ·obtain⟨l,I,rfl⟩:=yc.1 h;exact⟨l,I,rfl⟩
theorem E9{t:TypeId}{k:IntKind}(h:leaf? P t=some (.int k)):P.underlying t=some (.int k):=by
 unfold leaf? at h;split at h
 ·rename_i k' H;simp only[Option.some.injEq,LK.int.injEq]at h;rw[H,h]
 ·cases h
 ·cases h
 ·rename_i e H;split at h
  ·cases h
  ·obtain⟨_,_,h⟩:=yc.1 h;cases h
 ·cases h
theorem bT.intKind{t:TypeId}{K:TI}{k:IntKind}(h:bT P t K)(hT:K.ty=some (.int k))(I:K.ag=false):intKind? P t=some k/\P.underlying t=some (.int k):=by
 obtain⟨⟨ls,J,H⟩,_⟩:=h.ty _ hT;have M:=h.ag;rw[I]at M;obtain⟨l,N,rfl⟩:=eP M J;simp only[aZ]at H;split at H
 ·rename_i k' O;obtain rfl:=(yx O).1;obtain rfl:=qK.1 H;have:=E9 N;exact⟨by unfold intKind?;rw[this],this⟩
 ·cases H
theorem bT.intKind_none{t:TypeId}{J:TI}{T:Ty}(h:bT P t J)(hT:J.ty=some T)(hn:fZ J.ag T=false):intKind? P t=none:=by
 cases I:intKind? P t with
 |none=>rfl
 |some k=>
  exfalso;unfold intKind? at I;split at I
  ·rename_i U N;obtain rfl:=ya I;have O:isAgg? P t=some false:=by unfold isAgg?;rw[N]
   have K:J.ag=false:=by have:=h.ag;rw[O]at this;exact(ya this).symm
   obtain⟨⟨ls,M,H⟩,_⟩:=h.ty _ hT;obtain⟨l,W,rfl⟩:=eP O M;have:leaf? P t=some (.int U):=by unfold leaf?;rw[N]
   rw[W]at this;obtain rfl:=ya this;rw[K]at hn;cases T with
   |int _=>cases hn
   |bool=>simp[aZ]at H
   |str=>simp[aZ]at H
   |sl g T=>simp[aZ]at H
   |cons a b=>
    simp only[aZ,yb]at H;have V:=H.2;cases b<;>simp[aZ]at V
  ·cases I
theorem p3: ∀{T:Ty} {ls:List LK},aZ P T ls=true->ls.all wO=T.flat
 | .int k,ls,h=>by simp only[aZ]at h;split at h<;>first|rfl|cases h
 | .bool,ls,h=>by simp only[aZ]at h;split at h<;>first|rfl|cases h
 | .str,ls,h=>by simp only[aZ]at h;split at h<;>first|rfl|cases h
 | .sl ag T,ls,h=>by simp only[aZ]at h;split at h<;>first|rfl|cases h
 | .cons a b,ls,h=>by
  simp only[aZ]at h;split at h
  ·rename_i l ls;simp only[yb]at h;have H:=p3 h.1.2;have I:=p3 h.2;simp only[ye3,List.all_nil,yd3]at H;simp only[ye3,H,I];show _=FE a.flat b.flat
   rw[mL]
  ·cases h
theorem bT.flat{t:TypeId}{I:TI}{T:Ty}(h:bT P t I)(hT:I.ty=some T):Kk P t=T.flat:=by
 obtain⟨⟨ls,H,J⟩,_⟩:=h.ty _ hT;unfold Kk;rw[H];exact p3 J
theorem yP: ∀{T:Ty} {x:den T},T.flat=true->(aO T x).all Ln=true
 | .int k,x,h=>rfl
 | .bool,x,h=>rfl
 | .str,x,h=>rfl
 | .sl ag T,x,h=>by cases h
 | .cons a b,x,h=>by
  have H:FE a.flat b.flat=true:=h;rw[mL,yb]at H;simp only[aO,List.all_append,yP H.1,yP H.2,yl3]
theorem Nt{ag:Bool}{T:Ty}(h:T.flat=true)(xs:List (den T)):(xs.map (cF ag T)).all Aw=true:=by
 simp only[List.all_map,yi2,Function.comp_apply,Aw,b4];intro x _;have:=yP (x:=x) h;rwa[yi2]at this
theorem nF(ht:bL P tab){J:TypeId}{k:KRow->Option R}(h:rR tab J k=some r): ∃H T,tab J=some H/\H.ty=some T/\k (.ts false H.ag T [])=some r:=by
 unfold rR at h;split at h
 ·rename_i H I;split at h
  ·rename_i T hT;exact⟨H,T,I,hT,h⟩
  ·cases h
 ·cases h
theorem AP(ht:bL P tab){W:TypeId}{v:KV}{k:KRow->List Nat->Option R}(h:Ix (aQ R) tab W mem v k=some r):
  ∃row rd,k row rd=some r/\view P W (aB mem) v.down=some (row.view,rd):=by
 unfold Ix at h;split at h
 ·rename_i β ag T xs;split at h
  ·rename_i te N;have H:=bT.of (ht _ _ N);split at h
   ·rename_i M O;have K:=H.flat O;refine KRow.tsCases (P:=fun β ag T xs=> ∀{k:KRow->List Nat->Option R},(bif M.flat then(bif T.flat then k (.ts false ag T xs) []else none)else k (.ts (zY β ag T) ag T xs) [])=some r->∃row rd,k row rd=some r/\view P W (aB mem) (KV.tsl β ag T xs).down=some (row.view,rd)) (fun β Y xs=>?_) (fun β ag T xs hn=>?_) β ag T xs h
    ·intro k h;cases I:M.flat with
     |true=>rw[I]at h;simp only[yl]at h;exact⟨_,_,h,rfl⟩
     |false=>rw[I]at h;simp only[yj]at h;exact⟨_,_,h,rfl⟩
    ·intro k h;have hd:(KV.tsl β ag T xs).down= .imm β (.sl T.size (xs.map (cF ag T))):=by simp only[KV.down,bU hn]
     rw[hd];cases I:M.flat with
     |true=>
      rw[I]at h;simp only[yl]at h;rw[bP]at h;refine⟨_,_,h.2,?_⟩;simp only[view,K,I,Nt h.1,yl3,yl,KRow.view_sl hn]
     |false=>
      rw[I]at h;simp only[yj]at h;refine⟨_,_,h,?_⟩;simp only[view,K,I,Bool.false_and,yj,KRow.view_sl hn,lA hn]
   ·cases h
  ·cases h
 ·rename_i b g o n;obtain⟨x,U,h⟩:=bZ h;obtain⟨w,Z,h,_⟩:=Ek h;exact⟨w,[b],h,by simp only[KV.down,view,U,ye];rw[show x.down.row=x.row.down from rfl,Z];rfl⟩
 ·rename_i b g;obtain⟨x,U,h⟩:=bZ h;exact⟨x.row,[b],h,by simp only[KV.down,view,U,ye];rw[show x.down.row=x.row.down from rfl,CB]⟩
 ·exact⟨_,_,h,rfl⟩
 ·obtain⟨ti,T,V,hT,h⟩:=nF ht h;have H:=bT.of (ht _ _ V);refine⟨_,_,h,?_⟩;cases hr:fZ ti.ag T with
  |true=>
   obtain⟨J,Y,rfl⟩:=aN.1 hr;simp only[KV.down,view,(H.intKind hT J).1];rw[J];rfl
  |false=>
   simp only[KV.down,view,H.intKind_none hT hr,H.n,yh,KRow.view_sl hr,yi3,(H.ty T hT).2.1]
 ·cases h
theorem Na(ht:bL P tab){t:TypeId}{x:KV}{k:Int->List Nat->Option R}(h:OL tab t mem x k=some r):
  ∃n rd,k (n:Nat) rd=some r/\lenOf P t (aB mem) x.down=some (n,rd):=by
 unfold OL at h;split at h
 ·rename_i ti J;have H:=(bT.of (ht _ _ J)).tk;unfold m9 at H;split at h
  ·rename_i K;rw[K]at H;cases I:P.underlying t with
   |none=>rw[I]at H;simp at H
   |some d=>
    rw[I]at H;cases d<;>simp only at H<;>first|cases H|skip
    split at h
    ·exact⟨_,_,h,by simp only[lenOf,I,KV.down]⟩
    ·cases h
  ·rename_i et K;rw[K]at H;cases I:P.underlying t with
   |none=>rw[I]at H;simp at H
   |some d=>
    rw[I]at H;cases d<;>simp only at H<;>first|cases H|skip
    split at h
    ·rename_i β ag T xs;refine⟨_,_,h,?_⟩;refine KRow.tsCases (P:=fun β ag T xs=>lenOf P t (aB mem) (KV.tsl β ag T xs).down=some (xs.length,[])) (fun β O xs=>?_) (fun β ag T xs hn=>?_) β ag T xs
     ·show lenOf P t (aB mem) (.imm β (.ints O xs))=_;simp only[lenOf,I];rfl
     ·have U:(KV.tsl β ag T xs).down= .imm β (.sl T.size (xs.map (cF ag T))):=by simp only[KV.down,bU hn]
      rw[U];simp only[lenOf,I,ye1]
    ·exact⟨_,_,h,by simp only[lenOf,I,KV.down]⟩
    ·rename_i b g;obtain⟨x,N,h⟩:=bZ h;have M:lenOf P t (aB mem) (KV.msw b g).down=some (eD x.row,[b]):=by
      simp only[lenOf,I,KV.down,N,yh];rw[show x.down.row=x.row.down from rfl,mS]
     split at h
     ·rename_i β ag T xs hr;refine⟨_,_,h,?_⟩;rw[M,hr];rfl
     ·rename_i e cs hr;refine⟨_,_,h,?_⟩;rw[M,hr];rfl
     ·cases h
    ·exact⟨0,[],h,by simp only[lenOf,I,KV.down]⟩
    ·cases h
  ·cases h
 ·cases h
end
end Go.Ab
