import Derived.Test.YtjjjbgicidhpfaaDoorLib17
set_option linter.unusedVariables false
set_option linter.unusedSectionVars false
set_option linter.unusedSimpArgs false
namespace Go.Ab
variable [cS]
section
variable {P:Program} {R:Type} {r:R} {mem:aH} {tab:TypeId->Option TI}
theorem iK(ht:b9 P tab){t:TypeId}{k:TypeId->TI->Option R}(h:x8 tab t k=some r): ∃H J,elemOf? P t=some H/\tab H=some J/\k H J=some r/\P.underlying t=some (.slice H):=by
 unfold x8 at h;split at h
 ·rename_i ti K;split at h
  ·rename_i H O;have N:=(cH.of (ht _ _ K)).under_sl O;split at h
   ·rename_i J M;exact⟨H,J,by unfold elemOf?;rw[N],M,h,N⟩
   ·cases h
  ·cases h
 ·cases h
theorem Cx(ht:b9 P tab){M:TypeId}{y:KV}(h:I1 tab M y=true):Bt P M y.down=true:=by
 unfold I1 at h;cases H:tab M with
 |none=>rw[H]at h;cases h
 |some N=>
  rw[H]at h;simp only at h;have K:=cH.of (ht _ _ H);unfold Bt;cases J:N.tk with
  |str=>
   rw[J]at h;rw[K.under_str J];cases y with
   |lit v=>cases v<;>first|rfl|cases h
   |_=>cases h
  |sl et=>
   rw[J]at h;rw[K.under_sl J];cases y with
   |lit v=>cases v<;>first|rfl|cases h
   |_=>rfl
  |_=>rw[J]at h;simp at h
theorem zeroCells{t:TypeId}{H:TI}(h:cH P t H):(fW H).down.cells=KV.downs (fW H).cells/\(fW H).cells=H.zero.map .lit/\(fW H).cells.length=H.zero.length:=by
 obtain⟨_,O,K⟩:=h.zero_eq;refine⟨fE _,?_⟩;cases J:H.ag with
 |true=>rw[O J];simp[KV.cells]
 |false=>obtain⟨v,M,N⟩:=K J;rw[N,M];simp[KV.cells]
theorem JR{t:TypeId}{J:TI}(ht:cH P t J){T:Ty}(hT:J.ty=some T){β:Bool}: ∀{xs:List (den T)},JF P t β T.size (xs.map (c9 J.ag T))=some (KV.downs (jZ β T xs))
 | []=>rfl
 |x::xs=>by
  have Z: ∃v,True/\QS P β t (c9 J.ag T x) 0=some v/\v.cells=KV.downs (cellsOf β T x):=by
   obtain⟨⟨ls,U,hc⟩,hn,W,_⟩:=ht.ty T hT;have hl:a9 (dO T) (cellsOf β T x)=true:=leavesOk_cells;have hq: ∀(j:Nat) (v:KV),(cellsOf β T x)[j]?=some v->∃q,(c9 J.ag T x).cells[0+j]?=some q/\nA β v q:=by
    intro j v hj;rw[ye1,cU];exact mL.2 j v hj
   have hr:=sC (P:=P) (c:=0) hc hl hq;cases N:J.ag with
   |true=>
    refine⟨.agg (KV.downs (cellsOf β T x)),trivial,?_,rfl⟩;unfold QS;have M:=ht.ag;rw[N]at M;rw[N]at hr;simp only[M,U,ya,ht.n,e9,e6 hc,hn,hr];simp
   |false=>
    have M:=ht.ag;rw[N]at M;obtain⟨l,hl1,rfl⟩:=gO M U;have hs:=W N;have O:=(mL (β:=β) (x:=x)).1;rw[hs]at O;obtain⟨v,V⟩:=yw2.1 O;rw[V]at hr hq;obtain⟨q,H,hcp⟩:=hq 0 v rfl;rw[ya2]at H;simp only[jE,H,ya,KV.downs]at hr;rw[Hx]at hr;obtain⟨a,hra,hr⟩:=hr;have hav:=(yd1 (yb hr)).1;refine⟨v.down,trivial,?_,?_⟩
    ·unfold QS;rw[N]at H;simp only[M,hl1,ya,H];rw[hra,hav]
    ·rw[V,fE];rcases hcp with ⟨_,_,rfl,_⟩|⟨_,rfl,_⟩|⟨_,rfl,_⟩|⟨_,_,_,rfl,_⟩<;>rfl
  obtain⟨v,_,V,hc⟩:=Z;simp only[yl2,JF,V,ya,e9,hc,aN,mL.1,JR ht hT,yl];refine⟨nb.2 rfl,?_⟩;simp[jZ,dD]
 where
 leavesOk_cells: ∀{β:Bool} {T:Ty} {x:den T},a9 (dO T) (cellsOf β T x)=true
  |β,.int k,x=>by show a9 [Ty.int k] [.lit (.int k x)]=true;simp[a9,kX,yR.2]
  |β,.bool,x=>rfl
  |β,.str,x=>rfl
  |β,.sl ag T,x=>by show a9 [Ty.sl ag T] [.tsl β ag T x]=true;simp[a9,kX,MP.2,Ty.beq_iff.2]
  |β,.cons a b,x=>by
   rw[wS];simp only[dO];exact leavesOk_append leavesOk_cells leavesOk_cells
 leavesOk_append: ∀{Y K:List Ty} {vs ws:List KV},a9 Y vs=true->a9 K ws=true->a9 (Y++K) (vs++ws)=true
  | [],K,[],ws,_,h=>h
  |T::Y,K,v::vs,ws,h1,h2=>by
   simp only[a9,yc]at h1;simp only[yo3,a9,yc];exact⟨h1.1,leavesOk_append h1.2 h2⟩
  | [],K,_::_,ws,h,_=>by cases h
  |_::_,K,[],ws,h,_=>by cases h
theorem Dz(β:Bool)(k:IntKind): ∀xs:List Int,KV.downs (jZ β (.int k) xs)=xs.map λx=> .lit (.int k x)
 | []=>rfl
 |x::xs=>by
  have:=Dz β k xs;show KV.downs (KV.lit (.int k x)::jZ β (.int k) xs)=_;rw[KV.downs,this];rfl
theorem Bs{O:TypeId}{J:TI}(N:cH P O J){y:KRow}{U:List KV}(h:CJ J y=some U):y.view.toAvs P O=some (KV.downs U):=by
 cases y with
 |os=>cases h
 |cells e cs=>obtain rfl:=yb h;rfl
 |ts β ag T xs=>
  simp only[CJ]at h;split at h
  ·rename_i W M;rw[cJ]at h;obtain⟨K,h⟩:=h;simp only[yc]at K;obtain rfl:=Ty.beq_iff.1 K.1;have H:=MP.1 K.2;subst H;obtain rfl:=yb h;cases V:bD J.ag W with
   |true=>
    obtain⟨H,Y,rfl⟩:=aS.1 V;rw[H];exact congrArg some (Dz β Y xs).symm
   |false=>
    rw[KRow.view_sl V];exact JR N M
  ·cases h
theorem OI{M:TypeId}{V:TI}(N:cH P M V){x y:KRow}{k:KRow->Option R}(h:Id V x y k=some r): ∃z,k z=some r/\x.view.app P M y.view=some z.view/\kJ z=false:=by
 cases x with
 |os=>cases h
 |ts β ag T xs=>
  simp only[Id]at h;split at h
  ·rename_i β' Y Z H;rw[cJ]at h;obtain⟨ha,h⟩:=h;obtain rfl:=MP.1 ha;split at h
   ·rename_i zs W;obtain⟨rfl,rfl⟩:=eT W;refine⟨_,h,?_,rfl⟩;cases K:bD ag Z with
    |true=>
     obtain⟨rfl,O,rfl⟩:=aS.1 K;show aP.app P M (.ints O xs) (.ints O H)=some (.ints O (xs++H));simp[aP.app,guardB,yR.2];rfl
    |false=>
     rw[KRow.view_sl K,KRow.view_sl K,KRow.view_sl K];simp[aP.app,guardB]
   ·cases h
  ·cases h
 |cells e xs=>
  simp only[Id]at h;split at h
  ·rename_i H U;rw[cJ]at h;obtain⟨J,h⟩:=h;simp only[yc]at J;refine⟨_,h,?_,rfl⟩;show aP.app P M (.avs e (KV.downs xs)) y.view=some (.avs e (KV.downs (xs++H)));simp only[aP.app];rw[Bs N U];simp only[ya,e9,yc,Ln];exact⟨⟨⟨gC J.1.1,J.1.2⟩,J.2⟩,by simp[dD]⟩
  ·cases h
theorem Tg(β ag:Bool)(T:Ty)(xs:List (den T)):(KRow.ts β ag T xs).view.imm?=some (KV.tsl (CZ β ag T) ag T xs).down:=by
 cases H:bD ag T with
 |true=>
  obtain⟨rfl,kk,rfl⟩:=aS.1 H;rfl
 |false=>rw[KRow.view_sl H,AB H,pJ H];rfl
theorem RA(J:TypeId)(β ag:Bool)(T:Ty)(xs:List (den T)):oF P false J (KRow.ts β ag T xs).view=some (KRow.ts β ag T xs).down:=by
 cases H:bD ag T with
 |true=>
  obtain⟨rfl,kk,rfl⟩:=aS.1 H;rfl
 |false=>rw[KRow.view_sl H,KRow.down_sl H];rfl
theorem TH(row:KRow):row.down.isInts=Jq row:=by
 cases row with
 |ts β ag T xs=>
  show _=bD ag T;cases H:bD ag T with
  |true=>obtain⟨rfl,kk,rfl⟩:=aS.1 H;rfl
  |false=>rw[KRow.down_sl H];rfl
 |_=>rfl
theorem Ns(ht:b9 P tab){boxed vars:Bool}{t tx:TypeId}{rs:Nat}{x y:KV}{k:bK->Option R}(h:Lr (aZ R) tab boxed vars t tx mem rs x y k=some r):
  ∃out,k out=some r/\j8 P boxed vars t tx (aD mem) rs x.down y.down=some out.down:=by
 unfold Lr at h;have h0:=iK ht h;clear h;obtain⟨et,te,het,hte,h0,hu⟩:=h0;have J:=cH.of (ht _ _ hte);have h:=FX ht h0;clear h0;obtain⟨Y,H,h,hyv⟩:=h;rw[cJ]at h;obtain⟨O,h⟩:=h;simp only[yc]at O;obtain⟨⟨⟨⟨g1,g2⟩,g3⟩,g4⟩,g5⟩:=O;have hz:=J.zero_eq.1
 have N: ∀{U:Option dY} {o:dY},U=some o->(match x.down with
   | .lit (.slice none 0 0)=>guardB (Nat.ble Y.view.len bU) (bif boxed then(oF P vars et Y.view).map λrow=>{v:= .msw rs 0,rd:=H,wr:= [(rs,{gen:=0,frz:=false,row})]}else Y.view.imm?.map λv=>{v,rd:=H})
   | .msw b g=>(box? (aD mem) b g).bind λM=>(M.row.all.app P et Y.view).bind λZ=>guardB (!M.frz&&Nat.beq te.n M.row.e&&Nat.ble Z.len bU) (some {v:= .msw b (g+1),rd:=b::H,wr:= [(b,{gen:=g+1,frz:=false,row:=Z.row})]})
   | .ms b g o n=>(box? (aD mem) b g).bind λM=>(M.row.sub o n).bind λxv=>(xv.app P et Y.view).bind λZ=>guardB (!M.frz&&Nat.beq te.n M.row.e&&Nat.ble Z.len bU&&(Nat.beq o 0||(M.row.isInts&&Nat.ble 1 Z.len))) (some {v:= .msw b (g+1),rd:=b::H,wr:= [(b,{gen:=g+1,frz:=false,row:=Z.row})]})
   |_=>none)=U->j8 P boxed vars t tx (aD mem) rs x.down y.down=some o:=by
  intro U o hres hm;unfold j8;simp only[het,ya,J.n,J.bytes,hz,hyv];rw[e9];refine⟨?_,hm.trans hres⟩;simp only[yc,Ln];exact⟨⟨⟨⟨g1,Cx ht g2⟩,g3⟩,g4⟩,by rw[(zeroCells J).1,aN,(zeroCells J).2.2];exact g5⟩
 split at h
 ·simp only[Er,real_guard]at h;rw[cJ]at h;obtain⟨K,h⟩:=h;rw[<-yZ]at K;cases boxed with
  |true=>
   simp only[yh]at h;cases vars with
   |true=>
    simp only[yh]at h;split at h
    ·rename_i ys hys;rw[cJ]at h;obtain⟨h1,h⟩:=h;simp only[yc]at h1;refine⟨_,h,N (o:=(bK.mk (.msw rs 0) H [(rs,⟨0,false,.cells (sR Y) ys⟩)] []).down) rfl ?_⟩;simp only[KV.down,e9,K,yh,oF,Bs J hys,ya];simp[guardB,K,yZ,h1.1,gC h1.2,bK.down,dW.down,KRow.down,Ln,aD,KV.down]
    ·cases h
   |false=>
    simp only[yg]at h;split at h
    ·rename_i β ag T xs;refine⟨_,h,N (o:=(bK.mk (.msw rs 0) H [(rs,⟨0,false,.ts β ag T xs⟩)] []).down) rfl ?_⟩;simp only[KV.down,yh];rw[RA];simp[guardB,K,bK.down,dW.down,aD,KV.down]
    ·cases h
  |false=>
   simp only[yg]at h;split at h
   ·rename_i β ag T xs;refine⟨_,h,N (o:=(bK.mk (.tsl (CZ β ag T) ag T xs) H [] []).down) rfl ?_⟩;simp only[KV.down,yg];rw[Tg];simp[guardB,K,bK.down,aD,KV.down]
   ·cases h
 ·rename_i b g;have h':=cR h;clear h;obtain⟨M,V,h⟩:=h';obtain⟨z,h,hz,W⟩:=OI J h;rw[cJ]at h;obtain⟨O,h⟩:=h;simp only[yc]at O;simp only[Er,real_guard]at h;rw[cJ]at h;refine⟨_,h.2,N (o:=(bK.mk (.msw b (g+1)) (b::H) [(b,⟨g+1,false,z⟩)] []).down) rfl ?_⟩;simp only[KV.down,V,ya,show M.down.row=M.row.down from rfl,HA,hz,Bp];rw[e9];refine⟨?_,by simp[bK.down,dW.down,aD,KV.down,Ii _ W]⟩;simp only[yc,yZ];exact⟨⟨O.1,O.2⟩,h.1⟩
 ·rename_i b g o n;have h':=cR h;clear h;obtain⟨M,V,h⟩:=h';obtain⟨xr,hxr,h,_⟩:=I7 h;obtain⟨z,h,hz,W⟩:=OI J h;rw[cJ]at h;obtain⟨O,h⟩:=h;simp only[yc]at O;simp only[Er,real_guard]at h;rw[cJ]at h;obtain⟨hl,h⟩:=h;have hc:k ⟨.msw b (g+1),b::H,[(b,⟨g+1,false,z⟩)],[]⟩=some r/\(Nat.beq o 0||(M.row.down.isInts&&Nat.ble 1 (gD z)))=true:=by
   rw[TH];unfold Uf at h;simp only[real_guard]at h;cases hi:Jq M.row with
   |true=>rw[hi,yh,cJ]at h;exact⟨h.2,by rw[yq1];exact h.1⟩
   |false=>rw[hi,yg,cJ]at h;exact⟨h.2,by rw[h.1];rfl⟩
  refine⟨_,hc.1,N (o:=(bK.mk (.msw b (g+1)) (b::H) [(b,⟨g+1,false,z⟩)] []).down) rfl ?_⟩;simp only[KV.down,V,ya,show M.down.row=M.row.down from rfl,hxr,hz,Bp];rw[e9];refine⟨?_,by simp[bK.down,dW.down,aD,KV.down,Ii _ W]⟩;rw[yc];refine⟨?_,by rw[yZ];exact hc.2⟩;simp only[yc,yZ];exact⟨⟨O.1,O.2⟩,hl⟩
 ·cases h
end
end Go.Ab
