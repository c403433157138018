import Derived.Test.YtjjjbgicidhpfaaDoorLib16
set_option linter.unusedVariables false
set_option linter.unusedSectionVars false
set_option linter.unusedSimpArgs false
namespace Go.Ab
variable [b3]
section
variable {P:Program} {R:Type} {r:R} {mem:aE} {tab:TypeId->Option TI}
theorem e8(ht:bL P tab){t:TypeId}{k:TypeId->TI->Option R}(h:p6 tab t k=some r): ∃H I,elemOf? P t=some H/\tab H=some I/\k H I=some r/\P.underlying t=some (.slice H):=by
 unfold p6 at h;split at h
 ·rename_i ti K;split at h
  ·rename_i H N;have M:=(bT.of (ht _ _ K)).under_sl N;split at h
   ·rename_i I J;exact⟨H,I,by unfold elemOf?;rw[M],J,h,M⟩
   ·cases h
  ·cases h
 ·cases h
theorem wM(ht:bL P tab){K:TypeId}{y:KV}(h:D0 tab K y=true):vO P K y.down=true:=by
 unfold D0 at h;cases H:tab K with
 |none=>rw[H]at h;cases h
 |some M=>
  rw[H]at h;simp only at h;have I:=bT.of (ht _ _ H);unfold vO;cases J:M.tk with
  |str=>
   rw[J]at h;rw[I.under_str J];cases y with
   |lit v=>cases v<;>first|rfl|cases h
   |_=>cases h
  |sl et=>
   rw[J]at h;rw[I.under_sl J];cases y with
   |lit v=>cases v<;>first|rfl|cases h
   |_=>rfl
  |_=>rw[J]at h;simp at h
theorem zeroCells{t:TypeId}{H:TI}(h:bT P t H):(d7 H).down.cells=KV.downs (d7 H).cells/\(d7 H).cells=H.zero.map .lit/\(d7 H).cells.length=H.zero.length:=by
 obtain⟨_,M,K⟩:=h.zero_eq;refine⟨dU _,?_⟩;cases I:H.ag with
 |true=>rw[M I];simp[KV.cells]
 |false=>obtain⟨v,N,J⟩:=K I;rw[J,N];simp[KV.cells]
theorem Dt{t:TypeId}{K:TI}(ht:bT P t K){T:Ty}(hT:K.ty=some T){β:Bool}: ∀{xs:List (den T)},Fr P t β T.size (xs.map (cF K.ag T))=some (KV.downs (gD β T xs))
 | []=>rfl
 |x::xs=>by
  have hrd: ∃v,True/\Lu P β t (cF K.ag T x) 0=some v/\v.cells=KV.downs (cellsOf β T x):=by
   obtain⟨⟨ls,N,V⟩,hn,W,_⟩:=ht.ty T hT;have hl:aU (cM T) (cellsOf β T x)=true:=leavesOk_cells;have hq: ∀(j:Nat) (v:KV),(cellsOf β T x)[j]?=some v->∃q,(cF K.ag T x).cells[0+j]?=some q/\jG β v q:=by
    intro j v hj;rw[yy,b4];exact iZ.2 j v hj
   have hr:=nX (P:=P) (c:=0) V hl hq;cases M:K.ag with
   |true=>
    refine⟨.agg (KV.downs (cellsOf β T x)),trivial,?_,rfl⟩;unfold Lu;have J:=ht.ag;rw[M]at J;rw[M]at hr;simp only[J,N,ye,ht.n,dS,dM V,hn,hr];simp
   |false=>
    have J:=ht.ag;rw[M]at J;obtain⟨l,hl1,rfl⟩:=eP J N;have hs:=W M;have O:=(iZ (β:=β) (x:=x)).1;rw[hs]at O;obtain⟨v,U⟩:=ye2.1 O;rw[U]at hr hq;obtain⟨q,H,hcp⟩:=hq 0 v rfl;rw[yk1]at H;simp only[fT,H,ye,KV.downs]at hr;rw[Cy]at hr;obtain⟨a,hra,hr⟩:=hr;have Y:=(yx (ya hr)).1;refine⟨v.down,trivial,?_,?_⟩
    ·unfold Lu;rw[M]at H;simp only[J,hl1,ye,H];rw[hra,Y]
    ·rw[U,dU];rcases hcp with ⟨_,_,rfl,_⟩|⟨_,rfl,_⟩|⟨_,rfl,_⟩|⟨_,_,_,rfl,_⟩<;>rfl
  obtain⟨v,_,U,V⟩:=hrd;simp only[yt1,Fr,U,ye,dS,V,aJ,iZ.1,Dt ht hT,yh];refine⟨nb.2 rfl,?_⟩;simp[gD,cC]
 where
 leavesOk_cells: ∀{β:Bool} {T:Ty} {x:den T},aU (cM T) (cellsOf β T x)=true
  |β,.int k,x=>by show aU [Ty.int k] [.lit (.int k x)]=true;simp[aU,gM,qK.2]
  |β,.bool,x=>rfl
  |β,.str,x=>rfl
  |β,.sl ag T,x=>by show aU [Ty.sl ag T] [.tsl β ag T x]=true;simp[aU,gM,HS.2,Ty.beq_iff.2]
  |β,.cons a b,x=>by
   rw[o9];simp only[cM];exact leavesOk_append leavesOk_cells leavesOk_cells
 leavesOk_append: ∀{Ts I:List Ty} {vs ws:List KV},aU Ts vs=true->aU I ws=true->aU (Ts++I) (vs++ws)=true
  | [],I,[],ws,_,h=>h
  |T::Ts,I,v::vs,ws,Z,h2=>by
   simp only[aU,yb]at Z;simp only[yt2,aU,yb];exact⟨Z.1,leavesOk_append Z.2 h2⟩
  | [],I,_::_,ws,h,_=>by cases h
  |_::_,I,[],ws,h,_=>by cases h
theorem Af(β:Bool)(k:IntKind): ∀xs:List Int,KV.downs (gD β (.int k) xs)=xs.map λx=> .lit (.int k x)
 | []=>rfl
 |x::xs=>by
  have:=Af β k xs;show KV.downs (KV.lit (.int k x)::gD β (.int k) xs)=_;rw[KV.downs,this];rfl
theorem v7{O:TypeId}{K:TI}(M:bT P O K){y:KRow}{N:List KV}(h:zP K y=some N):y.view.toAvs P O=some (KV.downs N):=by
 cases y with
 |os=>cases h
 |cells e cs=>obtain rfl:=ya h;rfl
 |ts β ag T xs=>
  simp only[zP]at h;split at h
  ·rename_i V I;rw[bP]at h;obtain⟨J,h⟩:=h;simp only[yb]at J;obtain rfl:=Ty.beq_iff.1 J.1;have H:=HS.1 J.2;subst H;obtain rfl:=ya h;cases U:aY K.ag V with
   |true=>
    obtain⟨H,W,rfl⟩:=aN.1 U;rw[H];exact congrArg some (Af β W xs).symm
   |false=>
    rw[KRow.view_sl U];exact Dt M I
  ·cases h
theorem ID{K:TypeId}{U:TI}(M:bT P K U){x y:KRow}{k:KRow->Option R}(h:CN U x y k=some r): ∃z,k z=some r/\x.view.app P K y.view=some z.view/\gI z=false:=by
 cases x with
 |os=>cases h
 |ts β ag T xs=>
  simp only[CN]at h;split at h
  ·rename_i β' Z V I;rw[bP]at h;obtain⟨Y,h⟩:=h;obtain rfl:=HS.1 Y;split at h
   ·rename_i zs W;obtain⟨rfl,rfl⟩:=dG W;refine⟨_,h,?_,rfl⟩;cases H:aY ag V with
    |true=>
     obtain⟨rfl,N,rfl⟩:=aN.1 H;show aL.app P K (.ints N xs) (.ints N I)=some (.ints N (xs++I));simp[aL.app,guardB,qK.2];rfl
    |false=>
     rw[KRow.view_sl H,KRow.view_sl H,KRow.view_sl H];simp[aL.app,guardB]
   ·cases h
  ·cases h
 |cells e xs=>
  simp only[CN]at h;split at h
  ·rename_i I O;rw[bP]at h;obtain⟨J,h⟩:=h;simp only[yb]at J;refine⟨_,h,?_,rfl⟩;show aL.app P K (.avs e (KV.downs xs)) y.view=some (.avs e (KV.downs (xs++I)));simp only[aL.app];rw[v7 M O];simp only[ye,dS,yb,HB];exact⟨⟨⟨eG J.1.1,J.1.2⟩,J.2⟩,by simp[cC]⟩
  ·cases h
theorem MX(β ag:Bool)(T:Ty)(xs:List (den T)):(KRow.ts β ag T xs).view.imm?=some (KV.tsl (zY β ag T) ag T xs).down:=by
 cases H:aY ag T with
 |true=>
  obtain⟨rfl,kk,rfl⟩:=aN.1 H;rfl
 |false=>rw[KRow.view_sl H,qW H,lA H];rfl
theorem LZ(I:TypeId)(β ag:Bool)(T:Ty)(xs:List (den T)):kE P false I (KRow.ts β ag T xs).view=some (KRow.ts β ag T xs).down:=by
 cases H:aY ag T with
 |true=>
  obtain⟨rfl,kk,rfl⟩:=aN.1 H;rfl
 |false=>rw[KRow.view_sl H,KRow.down_sl H];rfl
theorem Np(row:KRow):row.down.isInts=Fa row:=by
 cases row with
 |ts β ag T xs=>
  show _=aY ag T;cases H:aY ag T with
  |true=>obtain⟨rfl,kk,rfl⟩:=aN.1 H;rfl
  |false=>rw[KRow.down_sl H];rfl
 |_=>rfl
theorem IA(ht:bL P tab){boxed vars:Bool}{t tx:TypeId}{rs:Nat}{x y:KV}{k:a9->Option R}(h:GM (aQ R) tab boxed vars t tx mem rs x y k=some r):
  ∃out,k out=some r/\f6 P boxed vars t tx (aB mem) rs x.down y.down=some out.down:=by
 unfold GM at h;have h0:=e8 ht h;clear h;obtain⟨et,te,het,hte,h0,hu⟩:=h0;have I:=bT.of (ht _ _ hte);have h:=AP ht h0;clear h0;obtain⟨Y,H,h,hyv⟩:=h;rw[bP]at h;obtain⟨N,h⟩:=h;simp only[yb]at N;obtain⟨⟨⟨⟨g1,g2⟩,g3⟩,g4⟩,g5⟩:=N;have hz:=I.zero_eq.1;have M: ∀{O:Option cU} {o:cU},O=some o->(match x.down with
   | .lit (.slice none 0 0)=>guardB (Nat.ble Y.view.len bF) (bif boxed then(kE P vars et Y.view).map λrow=>{v:= .msw rs 0,rd:=H,wr:= [(rs,{gen:=0,frz:=false,row})]}else Y.view.imm?.map λv=>{v,rd:=H})
   | .msw b g=>(box? (aB mem) b g).bind λK=>(K.row.all.app P et Y.view).bind λW=>guardB (!K.frz&&Nat.beq te.n K.row.e&&Nat.ble W.len bF) (some {v:= .msw b (g+1),rd:=b::H,wr:= [(b,{gen:=g+1,frz:=false,row:=W.row})]})
   | .ms b g o n=>(box? (aB mem) b g).bind λK=>(K.row.sub o n).bind λxv=>(xv.app P et Y.view).bind λW=>guardB (!K.frz&&Nat.beq te.n K.row.e&&Nat.ble W.len bF&&(Nat.beq o 0||(K.row.isInts&&Nat.ble 1 W.len))) (some {v:= .msw b (g+1),rd:=b::H,wr:= [(b,{gen:=g+1,frz:=false,row:=W.row})]})
   |_=>none)=O->f6 P boxed vars t tx (aB mem) rs x.down y.down=some o:=by
  intro O o Z hm;unfold f6;simp only[het,ye,I.n,I.bytes,hz,hyv];rw[dS];refine⟨?_,hm.trans Z⟩;simp only[yb,HB];exact⟨⟨⟨⟨g1,wM ht g2⟩,g3⟩,g4⟩,by rw[(zeroCells I).1,aJ,(zeroCells I).2.2];exact g5⟩
 split at h
 ·simp only[AR,real_guard]at h;rw[bP]at h;obtain⟨J,h⟩:=h;rw[<-qO]at J;cases boxed with
  |true=>
   simp only[yl]at h;cases vars with
   |true=>
    simp only[yl]at h;split at h
    ·rename_i ys hys;rw[bP]at h;obtain⟨h1,h⟩:=h;simp only[yb]at h1;refine⟨_,h,M (o:=(a9.mk (.msw rs 0) H [(rs,⟨0,false,.cells (oA Y) ys⟩)] []).down) rfl ?_⟩;simp only[KV.down,dS,J,yl,kE,v7 I hys,ye];simp[guardB,J,qO,h1.1,eG h1.2,a9.down,cS.down,KRow.down,HB,aB,KV.down]
    ·cases h
   |false=>
    simp only[yj]at h;split at h
    ·rename_i β ag T xs;refine⟨_,h,M (o:=(a9.mk (.msw rs 0) H [(rs,⟨0,false,.ts β ag T xs⟩)] []).down) rfl ?_⟩;simp only[KV.down,yl];rw[LZ];simp[guardB,J,a9.down,cS.down,aB,KV.down]
    ·cases h
  |false=>
   simp only[yj]at h;split at h
   ·rename_i β ag T xs;refine⟨_,h,M (o:=(a9.mk (.tsl (zY β ag T) ag T xs) H [] []).down) rfl ?_⟩;simp only[KV.down,yj];rw[MX];simp[guardB,J,a9.down,aB,KV.down]
   ·cases h
 ·rename_i b g;have h':=bZ h;clear h;obtain⟨K,V,h⟩:=h';obtain⟨z,h,hz,U⟩:=ID I h;rw[bP]at h;obtain⟨N,h⟩:=h;simp only[yb]at N;simp only[AR,real_guard]at h;rw[bP]at h;refine⟨_,h.2,M (o:=(a9.mk (.msw b (g+1)) (b::H) [(b,⟨g+1,false,z⟩)] []).down) rfl ?_⟩;simp only[KV.down,V,ye,show K.down.row=K.row.down from rfl,CB,hz,vN];rw[dS];refine⟨?_,by simp[a9.down,cS.down,aB,KV.down,Dk _ U]⟩;simp only[yb,qO];exact⟨⟨N.1,N.2⟩,h.1⟩
 ·rename_i b g o n;have h':=bZ h;clear h;obtain⟨K,V,h⟩:=h';obtain⟨xr,hxr,h,_⟩:=Ek h;obtain⟨z,h,hz,U⟩:=ID I h;rw[bP]at h;obtain⟨N,h⟩:=h;simp only[yb]at N;simp only[AR,real_guard]at h;rw[bP]at h;obtain⟨hl,h⟩:=h;have hc:k ⟨.msw b (g+1),b::H,[(b,⟨g+1,false,z⟩)],[]⟩=some r/\(Nat.beq o 0||(K.row.down.isInts&&Nat.ble 1 (eD z)))=true:=by
   rw[Np];unfold NI at h;simp only[real_guard]at h;cases hi:Fa K.row with
   |true=>rw[hi,yl,bP]at h;exact⟨h.2,by rw[yb3];exact h.1⟩
   |false=>rw[hi,yj,bP]at h;exact⟨h.2,by rw[h.1];rfl⟩
  refine⟨_,hc.1,M (o:=(a9.mk (.msw b (g+1)) (b::H) [(b,⟨g+1,false,z⟩)] []).down) rfl ?_⟩;simp only[KV.down,V,ye,show K.down.row=K.row.down from rfl,hxr,hz,vN];rw[dS];refine⟨?_,by simp[a9.down,cS.down,aB,KV.down,Dk _ U]⟩;rw[yb];refine⟨?_,by rw[qO];exact hc.2⟩;simp only[yb,qO];exact⟨⟨N.1,N.2⟩,hl⟩
 ·cases h
end
end Go.Ab
