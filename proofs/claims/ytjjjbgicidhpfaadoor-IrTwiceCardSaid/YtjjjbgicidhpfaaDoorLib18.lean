import Derived.Test.YtjjjbgicidhpfaaDoorLib17
set_option linter.unusedVariables false
set_option linter.unusedSectionVars false
set_option linter.unusedSimpArgs false
namespace Go.Ab
variable [cF]
section
variable {P:Program} {R:Type} {r:R} {mem:aF} {tab:TypeId->Option TI}
theorem gG(ht:bT P tab){t:TypeId}{k:TypeId->TI->Option R}(h:vG tab t k=some r): ∃H J,elemOf? P t=some H/\tab H=some J/\k H J=some r/\P.underlying t=some (.slice H):=by
 unfold vG at h;split at h
 ·rename_i ti M;split at h
  ·rename_i H O;have N:=(b5.of (ht _ _ M)).under_sl O;split at h
   ·rename_i J K;exact⟨H,J,by unfold elemOf?;rw[N],K,h,N⟩
   ·cases h
  ·cases h
 ·cases h
theorem AL(ht:bT P tab){M:TypeId}{y:KV}(h:Gu tab M y=true):z8 P M y.down=true:=by
 unfold Gu at h;cases H:tab M with
 |none=>rw[H]at h;cases h
 |some N=>
  rw[H]at h;simp only at h;have J:=b5.of (ht _ _ H);unfold z8;cases K:N.tk with
  |str=>
   rw[K]at h;rw[J.under_str K];cases y with
   |lit v=>cases v<;>first|rfl|cases h
   |_=>cases h
  |sl et=>
   rw[K]at h;rw[J.under_sl K];cases y with
   |lit v=>cases v<;>first|rfl|cases h
   |_=>rfl
  |_=>rw[K]at h;simp at h
theorem zeroCells{t:TypeId}{H:TI}(h:b5 P t H):(e8 H).down.cells=KV.downs (e8 H).cells/\(e8 H).cells=H.zero.map .lit/\(e8 H).cells.length=H.zero.length:=by
 obtain⟨_,O,M⟩:=h.zero_eq;refine⟨eS _,?_⟩;cases J:H.ag with
 |true=>rw[O J];simp[KV.cells]
 |false=>obtain⟨v,N,K⟩:=M J;rw[K,N];simp[KV.cells]
theorem Ge{t:TypeId}{K:TI}(ht:b5 P t K){T:Ty}(hT:K.ty=some T){β:Bool}: ∀{xs:List (den T)},Hc P t β T.size (xs.map (cR K.ag T))=some (KV.downs (iN β T xs))
 | []=>rfl
 |x::xs=>by
  have hrd: ∃v,True/\Pq P β t (cR K.ag T x) 0=some v/\v.cells=KV.downs (cellsOf β T x):=by
   obtain⟨⟨ls,N,hc⟩,hn,hag,_⟩:=ht.ty T hT;have hl:aV (c8 T) (cellsOf β T x)=true:=leavesOk_cells;have Z: ∀(j:Nat) (v:KV),(cellsOf β T x)[j]?=some v->∃q,(cR K.ag T x).cells[0+j]?=some q/\lI β v q:=by
    intro j v hj;rw[yc1,cG];exact kH.2 j v hj
   have hr:=qK (P:=P) (c:=0) hc hl Z;cases O:K.ag with
   |true=>
    refine⟨.agg (KV.downs (cellsOf β T x)),trivial,?_,rfl⟩;unfold Pq;have M:=ht.ag;rw[O]at M;rw[O]at hr;simp only[M,N,yb,ht.n,eK,eF hc,hn,hr];simp
   |false=>
    have M:=ht.ag;rw[O]at M;obtain⟨l,hl1,rfl⟩:=fL M N;have hs:=hag O;have U:=(kH (β:=β) (x:=x)).1;rw[hs]at U;obtain⟨v,V⟩:=yu2.1 U;rw[V]at hr Z;obtain⟨q,H,hcp⟩:=Z 0 v rfl;rw[yw1]at H;simp only[iI,H,yb,KV.downs]at hr;rw[FJ]at hr;obtain⟨a,hra,hr⟩:=hr;have hav:=(yb1 (ya hr)).1;refine⟨v.down,trivial,?_,?_⟩
    ·unfold Pq;rw[O]at H;simp only[M,hl1,yb,H];rw[hra,hav]
    ·rw[V,eS];rcases hcp with ⟨_,_,rfl,_⟩|⟨_,rfl,_⟩|⟨_,rfl,_⟩|⟨_,_,_,rfl,_⟩<;>rfl
  obtain⟨v,_,V,hc⟩:=hrd;simp only[yg2,Hc,V,yb,eK,hc,aJ,kH.1,Ge ht hT,yl];refine⟨nb.2 rfl,?_⟩;simp[iN,cQ]
 where
 leavesOk_cells: ∀{β:Bool} {T:Ty} {x:den T},aV (c8 T) (cellsOf β T x)=true
  |β,.int k,x=>by show aV [Ty.int k] [.lit (.int k x)]=true;simp[aV,jK,vO.2]
  |β,.bool,x=>rfl
  |β,.str,x=>rfl
  |β,.sl ag T,x=>by show aV [Ty.sl ag T] [.tsl β ag T x]=true;simp[aV,jK,KO.2,Ty.beq_iff.2]
  |β,.cons a b,x=>by
   rw[sK];simp only[c8];exact leavesOk_append leavesOk_cells leavesOk_cells
 leavesOk_append: ∀{W J:List Ty} {vs ws:List KV},aV W vs=true->aV J ws=true->aV (W++J) (vs++ws)=true
  | [],J,[],ws,_,h=>h
  |T::W,J,v::vs,ws,Y,h2=>by
   simp only[aV,yc]at Y;simp only[yk3,aV,yc];exact⟨Y.1,leavesOk_append Y.2 h2⟩
  | [],J,_::_,ws,h,_=>by cases h
  |_::_,J,[],ws,h,_=>by cases h
theorem Bm(β:Bool)(k:IntKind): ∀xs:List Int,KV.downs (iN β (.int k) xs)=xs.map λx=> .lit (.int k x)
 | []=>rfl
 |x::xs=>by
  have:=Bm β k xs;show KV.downs (KV.lit (.int k x)::iN β (.int k) xs)=_;rw[KV.downs,this];rfl
theorem z7{V:TypeId}{N:TI}(J:b5 P V N){y:KRow}{O:List KV}(h:BV N y=some O):y.view.toAvs P V=some (KV.downs O):=by
 cases y with
 |os=>cases h
 |cells e cs=>obtain rfl:=ya h;rfl
 |ts β ag T xs=>
  simp only[BV]at h;split at h
  ·rename_i W K;rw[bZ]at h;obtain⟨M,h⟩:=h;simp only[yc]at M;obtain rfl:=Ty.beq_iff.1 M.1;have H:=KO.1 M.2;subst H;obtain rfl:=ya h;cases U:a6 N.ag W with
   |true=>
    obtain⟨H,Y,rfl⟩:=aO.1 U;rw[H];exact congrArg some (Bm β Y xs).symm
   |false=>
    rw[KRow.view_sl U];exact Ge J K
  ·cases h
theorem L9{J:TypeId}{V:TI}(O:b5 P J V){x y:KRow}{k:KRow->Option R}(h:GC V x y k=some r): ∃z,k z=some r/\x.view.app P J y.view=some z.view/\iX z=false:=by
 cases x with
 |os=>cases h
 |ts β ag T xs=>
  simp only[GC]at h;split at h
  ·rename_i β' ag' Z M;rw[bZ]at h;obtain⟨Y,h⟩:=h;obtain rfl:=KO.1 Y;split at h
   ·rename_i zs W;obtain⟨rfl,rfl⟩:=eA W;refine⟨_,h,?_,rfl⟩;cases H:a6 ag Z with
    |true=>
     obtain⟨rfl,U,rfl⟩:=aO.1 H;show aL.app P J (.ints U xs) (.ints U M)=some (.ints U (xs++M));simp[aL.app,guardB,vO.2];rfl
    |false=>
     rw[KRow.view_sl H,KRow.view_sl H,KRow.view_sl H];simp[aL.app,guardB]
   ·cases h
  ·cases h
 |cells e xs=>
  simp only[GC]at h;split at h
  ·rename_i M N;rw[bZ]at h;obtain⟨K,h⟩:=h;simp only[yc]at K;refine⟨_,h,?_,rfl⟩;show aL.app P J (.avs e (KV.downs xs)) y.view=some (.avs e (KV.downs (xs++M)));simp only[aL.app];rw[z7 O N];simp only[yb,eK,yc,Ke];exact⟨⟨⟨fG K.1.1,K.1.2⟩,K.2⟩,by simp[cQ]⟩
  ·cases h
theorem Si(β ag:Bool)(T:Ty)(xs:List (den T)):(KRow.ts β ag T xs).view.imm?=some (KV.tsl (Bu β ag T) ag T xs).down:=by
 cases H:a6 ag T with
 |true=>
  obtain⟨rfl,kk,rfl⟩:=aO.1 H;rfl
 |false=>rw[KRow.view_sl H,yJ H,nK H];rfl
theorem PX(J:TypeId)(β ag:Bool)(T:Ty)(xs:List (den T)):mH P false J (KRow.ts β ag T xs).view=some (KRow.ts β ag T xs).down:=by
 cases H:a6 ag T with
 |true=>
  obtain⟨rfl,kk,rfl⟩:=aO.1 H;rfl
 |false=>rw[KRow.view_sl H,KRow.down_sl H];rfl
theorem Se(row:KRow):row.down.isInts=Gt row:=by
 cases row with
 |ts β ag T xs=>
  show _=a6 ag T;cases H:a6 ag T with
  |true=>obtain⟨rfl,kk,rfl⟩:=aO.1 H;rfl
  |false=>rw[KRow.down_sl H];rfl
 |_=>rfl
theorem K4(ht:bT P tab){boxed vars:Bool}{t tx:TypeId}{rs:Nat}{x y:KV}{k:bC->Option R}(h:JV (aS R) tab boxed vars t tx mem rs x y k=some r):
  ∃out,k out=some r/\iM P boxed vars t tx (aB mem) rs x.down y.down=some out.down:=by
 unfold JV at h;have h0:=gG ht h;clear h;obtain⟨et,te,het,hte,h0,hu⟩:=h0;have K:=b5.of (ht _ _ hte);have h:=CY ht h0;clear h0;obtain⟨Z,H,h,hyv⟩:=h;rw[bZ]at h;obtain⟨O,h⟩:=h;simp only[yc]at O;obtain⟨⟨⟨⟨g1,g2⟩,g3⟩,g4⟩,g5⟩:=O;have hz:=K.zero_eq.1
 have N: ∀{W:Option dI} {o:dI},W=some o->(match x.down with
   | .lit (.slice none 0 0)=>guardB (Nat.ble Z.view.len bJ) (bif boxed then(mH P vars et Z.view).map λrow=>{v:= .msw rs 0,rd:=H,wr:= [(rs,{gen:=0,frz:=false,row})]}else Z.view.imm?.map λv=>{v,rd:=H})
   | .msw b g=>(box? (aB mem) b g).bind λM=>(M.row.all.app P et Z.view).bind λY=>guardB (!M.frz&&Nat.beq te.n M.row.e&&Nat.ble Y.len bJ) (some {v:= .msw b (g+1),rd:=b::H,wr:= [(b,{gen:=g+1,frz:=false,row:=Y.row})]})
   | .ms b g o n=>(box? (aB mem) b g).bind λM=>(M.row.sub o n).bind λxv=>(xv.app P et Z.view).bind λY=>guardB (!M.frz&&Nat.beq te.n M.row.e&&Nat.ble Y.len bJ&&(Nat.beq o 0||(M.row.isInts&&Nat.ble 1 Y.len))) (some {v:= .msw b (g+1),rd:=b::H,wr:= [(b,{gen:=g+1,frz:=false,row:=Y.row})]})
   |_=>none)=W->iM P boxed vars t tx (aB mem) rs x.down y.down=some o:=by
  intro W o hres hm;unfold iM;simp only[het,yb,K.n,K.bytes,hz,hyv];rw[eK];refine⟨?_,hm.trans hres⟩;simp only[yc,Ke];exact⟨⟨⟨⟨g1,AL ht g2⟩,g3⟩,g4⟩,by rw[(zeroCells K).1,aJ,(zeroCells K).2.2];exact g5⟩
 split at h
 ·simp only[C5,real_guard]at h;rw[bZ]at h;obtain⟨J,h⟩:=h;rw[<-wS]at J;cases boxed with
  |true=>
   simp only[yg]at h;cases vars with
   |true=>
    simp only[yg]at h;split at h
    ·rename_i ys hys;rw[bZ]at h;obtain⟨h1,h⟩:=h;simp only[yc]at h1;refine⟨_,h,N (o:=(bC.mk (.msw rs 0) H [(rs,⟨0,false,.cells (qX Z) ys⟩)] []).down) rfl ?_⟩;simp only[KV.down,eK,J,yg,mH,z7 K hys,yb];simp[guardB,J,wS,h1.1,fG h1.2,bC.down,dE.down,KRow.down,Ke,aB,KV.down]
    ·cases h
   |false=>
    simp only[yh]at h;split at h
    ·rename_i β ag T xs;refine⟨_,h,N (o:=(bC.mk (.msw rs 0) H [(rs,⟨0,false,.ts β ag T xs⟩)] []).down) rfl ?_⟩;simp only[KV.down,yg];rw[PX];simp[guardB,J,bC.down,dE.down,aB,KV.down]
    ·cases h
  |false=>
   simp only[yh]at h;split at h
   ·rename_i β ag T xs;refine⟨_,h,N (o:=(bC.mk (.tsl (Bu β ag T) ag T xs) H [] []).down) rfl ?_⟩;simp only[KV.down,yh];rw[Si];simp[guardB,J,bC.down,aB,KV.down]
   ·cases h
 ·rename_i b g;have h':=cE h;clear h;obtain⟨M,U,h⟩:=h';obtain⟨z,h,hz,V⟩:=L9 K h;rw[bZ]at h;obtain⟨O,h⟩:=h;simp only[yc]at O;simp only[C5,real_guard]at h;rw[bZ]at h;refine⟨_,h.2,N (o:=(bC.mk (.msw b (g+1)) (b::H) [(b,⟨g+1,false,z⟩)] []).down) rfl ?_⟩;simp only[KV.down,U,yb,show M.down.row=M.row.down from rfl,FM,hz,Ad];rw[eK];refine⟨?_,by simp[bC.down,dE.down,aB,KV.down,HJ _ V]⟩;simp only[yc,wS];exact⟨⟨O.1,O.2⟩,h.1⟩
 ·rename_i b g o n;have h':=cE h;clear h;obtain⟨M,U,h⟩:=h';obtain⟨xr,hxr,h,_⟩:=Gr h;obtain⟨z,h,hz,V⟩:=L9 K h;rw[bZ]at h;obtain⟨O,h⟩:=h;simp only[yc]at O;simp only[C5,real_guard]at h;rw[bZ]at h;obtain⟨hl,h⟩:=h;have hc:k ⟨.msw b (g+1),b::H,[(b,⟨g+1,false,z⟩)],[]⟩=some r/\(Nat.beq o 0||(M.row.down.isInts&&Nat.ble 1 (fD z)))=true:=by
   rw[Se];unfold Rg at h;simp only[real_guard]at h;cases hi:Gt M.row with
   |true=>rw[hi,yg,bZ]at h;exact⟨h.2,by rw[yo2];exact h.1⟩
   |false=>rw[hi,yh,bZ]at h;exact⟨h.2,by rw[h.1];rfl⟩
  refine⟨_,hc.1,N (o:=(bC.mk (.msw b (g+1)) (b::H) [(b,⟨g+1,false,z⟩)] []).down) rfl ?_⟩;simp only[KV.down,U,yb,show M.down.row=M.row.down from rfl,hxr,hz,Ad];rw[eK];refine⟨?_,by simp[bC.down,dE.down,aB,KV.down,HJ _ V]⟩;rw[yc];refine⟨?_,by rw[wS];exact hc.2⟩;simp only[yc,wS];exact⟨⟨O.1,O.2⟩,hl⟩
 ·cases h
end
end Go.Ab
